import Derived.Test.YtpcodholllaceaaE18
namespace Go.Proofs.Ytpcodholllaceaa
open Go.RowKit Go.Shelf

theorem isU64_new (w : World) (xs : List Nat) (t : TypeId) (h : xs.length ≤ 9223372036854775807) : IsU64 (w.alloc (.cells (xs.map u64v).toArray t)) (fun b => w.heap.size ≤ b) (.slice (some ⟨w.heap.size, 0, none⟩) xs.length xs.length) xs := by
  refine ⟨_, _, rfl, Nat.le_refl _, h, fun _ => ⟨_, _, rfl, Nat.le_refl _, fun i j hi hj => ?_⟩⟩
  obtain rfl : j = 0 := by omega
  have hl : (w.alloc (.cells (xs.map u64v).toArray t)).heap[w.heap.size]? = some (.cells (xs.map u64v).toArray t (0, 0)) := by rw [heap_alloc_if, if_pos rfl]
  refine cell_of hl ?_
  rw [Nat.mul_one, Nat.zero_add, Nat.add_zero]
  simp [List.getD_eq_getElem?_getD, hi]
  rfl
theorem isU64_nil (w : World) (M : Nat → Prop) : IsU64 w M (.slice none 0 0) [] := IsSl.nil
theorem isShs_nil (w : World) (M : Nat → Prop) : IsShs w M (.slice none 0 0) [] := IsSl.nil
theorem IsShs.flat {w wr : World} {M : Nat → Prop} {A : Option Addr} {c : Nat} {xs : List (Nat × Nat)} (h : IsShs w M (.slice A xs.length c) xs) (hb : Below w.heap.size w wr) :
    0 < xs.length → ∃ ad, A = some ad ∧ ∀ j u, (rowS xs)[j]? = some u → wr.cell? (ad.add j) = some u := fun hn => by
  obtain ⟨A', c', e, _, _, h3⟩ := h
  cases e
  obtain ⟨b, off, e, _, hc⟩ := h3 hn
  refine ⟨_, e, fun j u hj => ?_⟩
  have hlt : j < xs.length * 2 := by
    rw [← rowS_len]
    exact (List.getElem?_eq_some_iff.1 hj).1
  have hi : j / 2 < xs.length := by omega
  have h2 : j % 2 < 2 := by omega
  have hcc := hc (j / 2) (j % 2) hi h2
  rw [show off + j / 2 * 2 + j % 2 = off + j by omega] at hcc
  rw [addr_add]
  refine (hb.cell (p := ⟨b, off + j, none⟩) (lt_of_cell hcc)).trans ?_
  rw [hcc, ← rowS_get xs (j / 2) (j % 2) hi h2, show j / 2 * 2 + j % 2 = j by omega, hj]
theorem rowS_one (xs : List (Nat × Nat)) : ∀ u ∈ rowS xs, u.oneCell' = true := by
  intro u hu
  unfold rowS at hu
  rw [List.mem_flatMap] at hu
  obtain ⟨s, _, hs⟩ := hu
  exact two_u64 _ _ u hs
theorem sane_split : splitD [7, 2] 2 = ([(1, 9), (2, 11)], 0) := by decide +kernel
theorem sane_split0 : splitD [] 3 = ([], 230) := by decide +kernel
theorem sane_join : joinD [(1, 9), (2, 11)] 2 = (7, 0) := by decide +kernel
theorem sane_join3 : joinD [(1, 9), (2, 11), (3, 14)] 2 = (0, 230) := by decide +kernel
theorem sane_join0 : joinD [] 1 = (0, 230) := by decide +kernel
theorem sane_pw : powersD [7, 2] = ([16384, 16], 0) := by decide +kernel
theorem sane_pwQ : powersD [1152921504606845789] = ([], 230) := by decide +kernel
theorem sane_ver : verD [16384, 16] (1, 9) = true := by decide +kernel
theorem sane_ver2 : verD [16384, 16] (1, 10) = false := by decide +kernel
theorem sane_ver0 : verD [] (1, 9) = false := by decide +kernel
theorem sane_powQ : pw 4 1152921504606845789 = 1 := by decide +kernel
theorem sane_pow0 : pw 0 0 = 1 := by decide +kernel
set_option maxRecDepth 100000 in
set_option maxHeartbeats 4000000 in
theorem sane_any (w : World) : Calls Try.prog 11 #[] w fun e w' => e = .returned (.bool true) ∧ Below w.heap.size w w' := by
  have c1 : ∀ W M v, IsU64 W M v [7, 2] → Calls Try.prog 14 #[v, .int .i64 2] W fun e w' => ∃ A d, e = .returned (.tuple #[.slice A 2 d, .int .i64 0]) ∧ IsShs w' (fun _ => True) (.slice A 2 d) [(1, 9), (2, 11)] ∧ 2 ≤ d ∧ Below W.heap.size W w' := fun W M v h => by
    have := split_any W M v [7, 2] h 2
    rw [sane_split] at this
    refine this.mono ?_
    rintro e w' ⟨v', rfl, hI, hb⟩
    obtain ⟨A1, d1, rfl, hd1, hd1', hcells⟩ := hI
    exact ⟨A1, d1, rfl, IsSl.mono (M' := fun _ => True) ⟨A1, d1, rfl, hd1, hd1', hcells⟩ (fun _ _ _ => trivial) (by decide), hd1, hb⟩
  have c2 : ∀ W M v, IsShs W M v [(1, 9), (2, 11)] → Calls Try.prog 22 #[v, .int .i64 2] W fun e w' => e = .returned (.tuple #[.int .u64 7, .int .i64 0]) ∧ Below W.heap.size W w' := fun W M v h => by
    have := join_any W M v _ h (by decide) 2
    rw [sane_join] at this
    exact this
  have c3 : ∀ W M v, IsShs W M v [(1, 9), (2, 11), (3, 14)] → Calls Try.prog 22 #[v, .int .i64 2] W fun e w' => e = .returned (.tuple #[.int .u64 0, .int .i64 230]) ∧ Below W.heap.size W w' := fun W M v h => by
    have := join_any W M v _ h (by decide) 2
    rw [sane_join3] at this
    exact this
  have c4 : ∀ W, Calls Try.prog 14 #[.slice none 0 0, .int .i64 3] W fun e w' => ∃ v, e = .returned (.tuple #[v, .int .i64 230]) ∧ Below W.heap.size W w' := fun W => by
    have := split_any W (fun _ => True) _ [] (isU64_nil _ _) 3
    rw [sane_split0] at this
    exact this.mono fun e w' ⟨v, h1, _, h2⟩ => ⟨v, h1, h2⟩
  have c5 : ∀ W M v, IsU64 W M v [1152921504606845789] → Calls Try.prog 12 #[v] W fun e w' => ∃ v, e = .returned (.tuple #[v, .int .i64 230]) ∧ Below W.heap.size W w' := fun W M v h => by
    have := powers_any W M v _ h (by intro x hx; rw [List.mem_singleton] at hx; rw [hx]; decide)
    rw [sane_pwQ] at this
    exact this.mono fun e w' ⟨v, h1, _, h2⟩ => ⟨v, h1, h2⟩
  have c6 : ∀ W, Calls Try.prog 22 #[.slice none 0 0, .int .i64 1] W fun e w' => e = .returned (.tuple #[.int .u64 0, .int .i64 230]) ∧ Below W.heap.size W w' := fun W => by
    have := join_any W (fun _ => True) _ [] (isShs_nil _ _) (by decide) 1
    rw [sane_join0] at this
    exact this
  have c7 : ∀ W M v, IsU64 W M v [7, 2] → Calls Try.prog 12 #[v] W fun e w' => ∃ v, e = .returned (.tuple #[v, .int .i64 0]) ∧ IsU64 w' (fun _ => True) v [16384, 16] ∧ Below W.heap.size W w' := fun W M v h => by
    have := powers_any W M v _ h (by intro x hx; simp at hx; omega)
    rw [sane_pw] at this
    exact this.mono fun e w' ⟨v, h1, h3, h2⟩ => ⟨v, h1, IsSl.mono h3 (fun _ _ _ => trivial) (by decide), h2⟩
  have c8 : ∀ W M v, IsU64 W M v [16384, 16] → Calls Try.prog 20 #[v, .agg #[.int .u64 1, .int .u64 9]] W fun e w' => e = .returned (.bool true) ∧ Below W.heap.size W w' := fun W M v h => by rw [← sane_ver]; exact verify_any W M v _ h 1 9
  have c9 : ∀ W M v, IsU64 W M v [16384, 16] → Calls Try.prog 20 #[v, .agg #[.int .u64 1, .int .u64 10]] W fun e w' => e = .returned (.bool false) ∧ Below W.heap.size W w' := fun W M v h => by rw [← sane_ver2]; exact verify_any W M v _ h 1 10
  have c10 : ∀ W, Calls Try.prog 20 #[.slice none 0 0, .agg #[.int .u64 1, .int .u64 9]] W fun e w' => e = .returned (.bool false) ∧ Below W.heap.size W w' := fun W => by rw [← sane_ver0]; exact verify_any W (fun _ => True) _ _ (isU64_nil _ _) 1 9
  have c11 : ∀ W, Calls Try.prog 16 #[.int .u64 4, .int .u64 1152921504606845789] W fun e w' => e = .returned (.int .u64 1) ∧ ∃ n, w' = W.drewN n := fun W => by have := Pow_any 4 1152921504606845789 (by decide) W; rw [sane_powQ] at this; exact this
  have c12 : ∀ W, Calls Try.prog 16 #[.int .u64 0, .int .u64 0] W fun e w' => e = .returned (.int .u64 1) ∧ ∃ n, w' = W.drewN n := fun W => by have := Pow_any 0 0 (by decide) W; rw [sane_pow0] at this; exact this
  have C1 := Lib.hid c1
  have C2 := Lib.hid c2
  have C3 := Lib.hid c3
  have C4 := Lib.hid c4
  have C5 := Lib.hid c5
  have C6 := Lib.hid c6
  have C7 := Lib.hid c7
  have C8 := Lib.hid c8
  have C9 := Lib.hid c9
  have C10 := Lib.hid c10
  have C11 := Lib.hid c11
  have C12 := Lib.hid c12
  clear c1 c2 c3 c4 c5 c6 c7 c8 c9 c10 c11 c12
  obtain ⟨iu, hiu, hz0, hz1, hz2⟩ := info_parts Try.info_sh
  have HIU := Lib.hid (And.intro hiu (And.intro hz0 (And.intro hz1 hz2)))
  clear hiu hz0 hz1 hz2
  go_enter Try.func11, Try.ntmps11
  go_wp2_with fail
  refine (C1.out _ _ _ (isU64_new w [7, 2] 22 (by decide))).mono ?_
  rintro e w2 ⟨A1, d1, rfl, hI1, hd1, hb2⟩
  have HB2 : Hid (Below w.heap.size w w2) := Below.trans ((Below.refl _ _).alloc (Nat.le_refl _) _) (hb2.mono (by simp))
  have HL := Lib.hid hI1
  clear hI1 hb2
  go_wp2_with fail
  refine (C2.out _ _ _ HL.out).mono ?_
  rintro e w3 ⟨rfl, hb3⟩
  have HB3 := Lib.hid (HB2.out.trans (hb3.mono HB2.out.size))
  have HL3 := Lib.hid (HL.out.below hb3)
  clear hb3 HL
  have HE : Hid ((w3.alloc (.cells #[] 36)).ownsRow w3.heap.size 36 2 (.slice (some ⟨w3.heap.size, 0, none⟩) 0 0) 0 []) := own_empty (by rw [heap_alloc_if, if_pos rfl]) (Nat.le_refl _)
  have HFL := Lib.hid (IsShs.flat (A := A1) (c := d1) (xs := [(1, 9), (2, 11)]) HL3.out ((Below.refl w3.heap.size w3).alloc (Nat.le_refl _) (.cells #[] 36)))
  go_wp2_with (at_builtin; refine wpList_append_cells _ rfl _ _ 28 rfl w3.heap.size 36 iu (.agg #[.int .u64 0, .int .u64 0]) 2 16 Try.underlying28 HIU.out.1 HIU.out.2.1 HIU.out.2.2.1 HIU.out.2.2.2 rfl (by decide) _ 0 _ rfl HE.out A1 2 d1 (rowS [(1, 9), (2, 11)]) rfl rfl ?a1 ?a2 (by unfold maxLen; decide) (by decide) ?a5 ?_)
  case a1 => first | exact HFL.out | exact fun h => HFL.out (by decide)
  case a2 => exact rowS_one _
  case a5 => first | omega | (simp; done) | (simp; omega)
  intro v4 w4 hown4 hgrow4 _
  have HO4 := Lib.hid hown4
  have HB4 := Lib.hid (((Below.refl w3.heap.size w3).alloc (Nat.le_refl _) (.cells #[] 36)).grown hgrow4 (by simp) (own_base HE.out))
  clear hown4 hgrow4
  have hs4 := HB4.out.size
  go_wp2_with (at_builtin; refine wpList_append_cells _ rfl _ _ 28 rfl w3.heap.size 36 iu (.agg #[.int .u64 0, .int .u64 0]) 2 16 Try.underlying28 HIU.out.1 HIU.out.2.1 HIU.out.2.2.1 HIU.out.2.2.2 rfl (by decide) _ (0 + 2) _ rfl (HO4.out.alloc _) (some ⟨w4.heap.size, 0, none⟩) 1 1 [u64v 3, u64v 14] rfl rfl ?b1 ?b2 (by unfold maxLen; decide) (by decide) ?b5 ?_)
  case b1 => first | exact fun _ => ⟨_, rfl, cell_two_new _ _ _ _⟩ | exact fun _ _ h => h
  case b2 => first | exact two_u64 _ _ | exact ⟨rfl, rfl⟩
  case b5 => first | omega | (simp; done) | (simp; omega)
  intro v5 w5 hown5 hgrow5 _
  have HI5 : Hid (IsShs w5 (fun b => w3.heap.size ≤ b) v5 [(1, 9), (2, 11), (3, 14)]) := IsShs.ofOwn hown5
  have HB5 := Lib.hid ((HB4.out.alloc hs4 _).grown hgrow5 (by simp; omega) (own_base HO4.out))
  clear hown5 hgrow5 hs4
  go_wp2_with fail
  refine (C3.out _ _ _ HI5.out).mono ?_
  rintro e w6 ⟨rfl, hb6⟩
  have HB6 := Lib.hid (HB5.out.trans (hb6.mono HB5.out.size))
  clear hb6
  go_wp2_with fail
  refine (C4.out _).mono ?_
  rintro e w7 ⟨v7, rfl, hb7⟩
  have HB7 := Lib.hid (HB6.out.trans (hb7.mono HB6.out.size))
  clear hb7
  go_wp2_with fail
  refine (C5.out _ _ _ (isU64_new w7 [1152921504606845789] 22 (by decide))).mono ?_
  rintro e w8 ⟨v8, rfl, hb8⟩
  have HB8 : Hid (Below w3.heap.size w3 w8) := (HB7.out.alloc HB7.out.size _).trans (hb8.mono (by have := HB7.out.size; simp; omega))
  clear hb8
  go_wp2_with fail
  refine (C6.out _).mono ?_
  rintro e w9 ⟨rfl, hb9⟩
  have HB9 := Lib.hid (HB8.out.trans (hb9.mono HB8.out.size))
  clear hb9
  go_wp2_with fail
  refine (C7.out _ _ _ (isU64_new w9 [7, 2] 22 (by decide))).mono ?_
  rintro e w10 ⟨v10, rfl, hI10, hb10⟩
  have HB10 : Hid (Below w3.heap.size w3 w10) := (HB9.out.alloc HB9.out.size _).trans (hb10.mono (by have := HB9.out.size; simp; omega))
  have HI10 := Lib.hid hI10
  clear hb10 hI10
  have HL10 := Lib.hid (IsSl.below HL3.out HB10.out)
  obtain ⟨b, off, rfl, hbl, l0, l1⟩ := IsShs.at_ (A := A1) (c := d1) (xs := [(1, 9), (2, 11)]) (k := 0) HL10.out (Below.refl _ _) (by decide)
  obtain ⟨b', off', e', -, l2, l3⟩ := IsShs.at_ (A := some ⟨b, off, none⟩) (c := d1) (xs := [(1, 9), (2, 11)]) (k := 1) HL10.out (Below.refl _ _) (by decide)
  cases e'
  have m0 : w10.cell? ⟨b, off, none⟩ = some (.int .u64 1) := l0
  have m1 : w10.cell? ⟨b, off + 1, none⟩ = some (.int .u64 9) := l1
  have m2 : w10.cell? ⟨b, off + 2, none⟩ = some (.int .u64 2) := l2
  have m3 : w10.cell? ⟨b, off + 2 + 1, none⟩ = some (.int .u64 11) := l3
  have m3' : w10.cell? ⟨b, off + 3, none⟩ = some (.int .u64 11) := l3
  clear l0 l1 l2 l3
  obtain ⟨A10, d10, rfl, hd10, hd10', -⟩ := (show IsU64 w10 (fun _ => True) v10 [16384, 16] from HI10.out)
  go_wp2_with fail
  refine (C8.out _ _ _ HI10.out).mono ?_
  rintro e w11 ⟨rfl, hb11⟩
  have HB11 := Lib.hid (HB10.out.trans (hb11.mono HB10.out.size))
  have HI11 := Lib.hid (IsSl.below HI10.out hb11)
  clear hb11
  go_wp2_with fail
  refine (C9.out _ _ _ HI11.out).mono ?_
  rintro e w12 ⟨rfl, hb12⟩
  have HB12 := Lib.hid (HB11.out.trans (hb12.mono HB11.out.size))
  have HL12 := Lib.hid (IsSl.below HL3.out HB12.out)
  clear hb12 m0 m1 m2 m3 m3'
  obtain ⟨b', off', e', -, l0, l1⟩ := IsShs.at_ (A := some ⟨b, off, none⟩) (c := d1) (xs := [(1, 9), (2, 11)]) (k := 0) HL12.out (Below.refl _ _) (by decide)
  cases e'
  have m0 : w12.cell? ⟨b, off, none⟩ = some (.int .u64 1) := l0
  have m1 : w12.cell? ⟨b, off + 1, none⟩ = some (.int .u64 9) := l1
  clear l0 l1
  go_wp2_with fail
  refine (C10.out _).mono ?_
  rintro e w13 ⟨rfl, hb13⟩
  have HB13 := Lib.hid (HB12.out.trans (hb13.mono HB12.out.size))
  clear hb13
  go_wp2_with fail
  refine (C11.out _).mono ?_
  rintro e w14 ⟨rfl, n1, rfl⟩
  go_wp2_with fail
  refine (C12.out _).mono ?_
  rintro e w15 ⟨rfl, n2, rfl⟩
  go_wp2_with fail
  go_ret
  exact ⟨rfl, below_drewN (HB3.out.trans (HB13.out.mono HB3.out.size)) _⟩
end Go.Proofs.Ytpcodholllaceaa
