/- in, bothPots and drawSane of the law TopDraw. -/
import Derived.Test.YtgaanndidcdbpaaW1
import Derived.Test.YtgaanndidcdbpaaDwD
import Derived.BigQuiet
namespace Go.Proofs.Ytgaanndidcdbpaa
open Go.RowKit Go.Shelf

theorem inl_any (w : World) (M : Nat → Prop) (v : Value) (l : List Int) (h : IsInts w M v l) (hl : l.length ≤ 100000) (x : Int) : Calls Try.prog 50 #[v, .int .i64 x] w (RetT (decide (x ∈ l)) w) := by
  obtain ⟨A, c, rfl, -⟩ := id h
  have HI := Lib.hid h
  obtain ⟨z, hz⟩ : ∃ z, z = decide (x ∈ l) := ⟨_, rfl⟩
  have HZ := Lib.hid hz
  rw [← hz]
  obtain ⟨n, hn⟩ : ∃ n, n = l.length := ⟨_, rfl⟩
  have HN := Lib.hid hn
  rw [← hn] at hl HI ⊢
  clear h hz hn
  go_enter Try.func50, Try.ntmps50
  go_wp2_with fail
  go_loopw [5] (fun i wr => ∃ k : Nat, k ≤ n ∧ i = .int .i64 (k : Int) ∧ Hid (∀ j, j < k → nthI l j ≠ x) ∧ wr = w) (fun i _ => n - (intOf i).toNat)
  case atStart => exact ⟨0, Nat.zero_le _, rfl, Lib.hid (fun j hj => absurd hj (by omega)), rfl⟩
  case round =>
    obtain ⟨k, hk, rfl, HNO, rfl⟩ := hrel
    by_cases hlt : k < n
    · have hk1 : (k : Int) < (n : Int) := by omega
      have hk0 : (0 : Int) ≤ (k : Int) := by omega
      have hkl : k < l.length := by rw [← HN.out]; exact hlt
      obtain ⟨g, off, rfl, hgl, hc0⟩ := HI.out.at_ (Below.refl _ _) hkl
      have HMEM := Lib.hid (show nthI l k ∈ l by rw [nthI_get hkl]; exact List.getElem_mem _)
      obtain ⟨y, hy⟩ : ∃ y, y = nthI l k := ⟨_, rfl⟩
      rw [← hy] at hc0 HMEM
      have HY := Lib.hid hy
      clear hy hgl hkl
      by_cases he : y = x
      · have d1 : (y == x) = true := by simp [he]
        have HQ := Lib.hid (show z = true by rw [HZ.out, ← he]; exact decide_eq_true HMEM.out)
        clear he
        go_wp2_with fail
        go_ret
        exact ⟨ret_bool HQ.out.symm, Below.refl _ _⟩
      · have d1 : (y == x) = false := by simp [he]
        have HN2 := Lib.hid (show ∀ j, j < k + 1 → nthI l j ≠ x from fun j hj => by
          rcases Nat.lt_or_ge j k with q | q
          · exact HNO.out j q
          · rw [show j = k by omega, ← HY.out]; exact he)
        clear he
        go_wp2_with fail
        go_roundw
        case rel => exact ⟨k + 1, by omega, by go_num, HN2, by first | rfl | trivial⟩
        case measure => simp [intOf]; omega
    · have hk1 : ¬ (k : Int) < (n : Int) := by omega
      have HQ := Lib.hid (show z = false by
        rw [HZ.out]
        refine decide_eq_false fun hm => ?_
        obtain ⟨i, hi, e⟩ := List.getElem_of_mem hm
        exact HNO.out i (by have := HN.out; omega) (by rw [nthI_get hi]; exact e))
      clear hlt hk
      go_wp2_with fail
      go_ret
      exact ⟨ret_bool HQ.out.symm, Below.refl _ _⟩
def potIn (d : Dw.DrawD) (x : Int) : Bool := decide (x ∈ d.first) || decide (x ∈ d.second)
def potsTo (d : Dw.DrawD) (k : Nat) : List Int := ((List.range k).map (fun n : Nat => (n : Int))).filter (potIn d)
/-- the clubs of both pots, in order -/
def pots (d : Dw.DrawD) : List Int := potsTo d 192
theorem potsTo_yes {d : Dw.DrawD} {k : Nat} (h : potIn d (k : Int) = true) : potsTo d (k + 1) = potsTo d k ++ [(k : Int)] := by
  unfold potsTo
  rw [List.range_succ, List.map_append, List.filter_append]
  congr 1
  show List.filter (potIn d) [(k : Int)] = _
  rw [List.filter_cons, if_pos h]; rfl
theorem potsTo_no {d : Dw.DrawD} {k : Nat} (h : potIn d (k : Int) = false) : potsTo d (k + 1) = potsTo d k := by
  unfold potsTo
  rw [List.range_succ, List.map_append, List.filter_append]
  show _ ++ List.filter (potIn d) [(k : Int)] = _
  rw [List.filter_cons, if_neg (by rw [h]; decide)]
  exact List.append_nil _
theorem potsTo_len (d : Dw.DrawD) (k : Nat) : (potsTo d k).length ≤ k := Nat.le_trans (List.length_filter_le _ _) (by simp)
theorem nodup_len : ∀ {a b : List Int}, a.Nodup → (∀ x ∈ a, x ∈ b) → a.length ≤ b.length
  | [], _, _, _ => Nat.zero_le _
  | x :: a, b, hn, hm => by
    have h1 := List.nodup_cons.1 hn
    have h2 : x ∈ b := hm x (by simp)
    have h3 : a.length ≤ (b.erase x).length := nodup_len h1.2 fun y hy => by
      have hne : y ≠ x := fun e => h1.1 (e ▸ hy)
      exact (List.mem_erase_of_ne hne).2 (hm y (by simp [hy]))
    rw [List.length_erase_of_mem h2] at h3
    have h4 : 0 < b.length := List.length_pos_of_mem h2
    show a.length + 1 ≤ b.length
    omega
theorem pots_sorted (d : Dw.DrawD) : (pots d).Pairwise (· < ·) := by
  unfold pots potsTo
  refine List.Pairwise.filter _ ?_
  rw [List.pairwise_map]
  exact List.Pairwise.imp (fun h => by omega) List.pairwise_lt_range
theorem pots_mem {d : Dw.DrawD} {x : Int} (h : x ∈ pots d) : 0 ≤ x ∧ x < 192 ∧ x ∈ d.first ++ d.second := by
  unfold pots potsTo at h
  obtain ⟨h1, h2⟩ := List.mem_filter.1 h
  obtain ⟨n, hn, rfl⟩ := List.mem_map.1 h1
  have := List.mem_range.1 hn
  refine ⟨by omega, by omega, ?_⟩
  unfold potIn at h2
  rw [Bool.or_eq_true, decide_eq_true_eq, decide_eq_true_eq] at h2
  exact List.mem_append.2 h2
theorem pots_len (d : Dw.DrawD) : (pots d).length ≤ d.first.length + d.second.length := by
  have := nodup_len (a := pots d) (b := d.first ++ d.second) (List.Pairwise.imp (fun h => by omega) (pots_sorted d)) (fun x hx => (pots_mem hx).2.2)
  rwa [List.length_append] at this
theorem pots_clubs (d : Dw.DrawD) : clubsTo (pots d) (pots d).length := fun i hi => by
  have h1 := pots_mem (d := d) (x := nthI (pots d) i) (by rw [nthI_get hi]; exact List.getElem_mem _)
  refine ⟨h1.1, h1.2.1, fun h0 => ?_⟩
  rw [nthI_get hi, nthI_get (show i - 1 < (pots d).length by omega)]
  exact List.pairwise_iff_getElem.1 (pots_sorted d) (i - 1) i (by omega) hi (by omega)
set_option maxRecDepth 20000 in
set_option maxHeartbeats 4000000 in
theorem pots_any (w : World) (M : Nat → Prop) (v : Value) (d : Dw.DrawD) (h : Dw.IsDraw w M v d) (hl : d.first.length ≤ 100000 ∧ d.second.length ≤ 100000) : Calls Try.prog 23 #[v] w fun e w' => ∃ u, e = .returned u ∧ IsInts w' (fun q => w.heap.size ≤ q) u (pots d) ∧ Below w.heap.size w w' := by
  obtain ⟨v1, v2, v3, rfl, h1, h2, -⟩ := h
  have H1 := Lib.hid h1
  have H2 := Lib.hid h2
  have HL := Lib.hid hl
  clear h1 h2 hl
  go_enter Try.func23, Try.ntmps23
  go_upto_region 1 with fail
  refine nameC fun W1 hW1 => ?_
  have hb1 : Below w.heap.size w W1 := by rw [hW1.out]; exact (Below.refl _ _).alloc (Nat.le_refl _) _
  have k0 : W1.heap[w.heap.size]? = some (.cells #[v1, v2, v3] 73 (0, 0)) := by rw [hW1.out]; exact heap_alloc_new _ _
  have HB1 := Lib.hid hb1
  have K0 := Lib.hid k0
  have hwg : w.heap.size < W1.heap.size := lt_heap k0
  clear hW1 hb1 k0
  go_upto_region 2 with fail
  refine nameC fun W2 hW2 => ?_
  have hb2 : Below W1.heap.size W1 W2 := by rw [hW2.out]; exact (Below.refl _ _).alloc (Nat.le_refl _) _
  have hE : W2.heap[W1.heap.size]? = some (.cells #[] 3 (0, 0)) := by rw [hW2.out, heap_alloc_if, if_pos rfl]
  have HE : Hid (W2.ownsRow W1.heap.size 3 1 (.slice (some ⟨W1.heap.size, 0, none⟩) 0 0) 0 []) := own_empty hE (Nat.le_refl _)
  have HB2 := Lib.hid hb2
  clear hE hW2 hb2
  go_wp2_with fail
  go_loopw [3, 4] (fun s3 s4 wr => ∃ (k : Nat) (A : Option Addr) (c : Nat), k ≤ 192 ∧ s4 = .int .i64 (k : Int) ∧ s3 = .slice A (potsTo d k).length c ∧ Hid (wr.ownsRow W1.heap.size 3 1 (.slice A (potsTo d k).length c) (potsTo d k).length ((potsTo d k).map i64v)) ∧ Hid (Below W1.heap.size W1 wr)) (fun _ s4 _ => 192 - (intOf s4).toNat)
  case atStart => exact ⟨0, some ⟨W1.heap.size, 0, none⟩, 0, Nat.zero_le _, rfl, rfl, HE, HB2⟩
  case round =>
    clear HE HB2
    obtain ⟨k, A, c, hk, rfl, rfl, HO, HB⟩ := hrel
    have HBw := Lib.hid (HB1.out.trans (HB.out.mono HB1.out.size))
    by_cases hlt : k < 192
    · have hk1 : (k : Int) < 192 := by omega
      have hk0 : (0 : Int) ≤ (k : Int) := by omega
      have kk := (HB.out.block _ (lt_heap K0.out)).trans K0.out
      have c0 := cell_of (j := 0) kk rfl
      have c1 := cell_of (j := 1) kk rfl
      have D1 := Lib.hid (inl_any wr _ v1 d.first (IsSl.below H1.out HBw.out) HL.out.1 (k : Int))
      obtain ⟨z1, hz1⟩ : ∃ z, z = decide ((k : Int) ∈ d.first) := ⟨_, rfl⟩
      have HZ1 := Lib.hid hz1
      rw [← hz1] at D1
      have hml := potsTo_len d k
      clear kk hz1
      go_wp2_with fail
      refine D1.out.mono ?_
      rintro e W4 ⟨rfl, hb⟩
      have HB4 := Lib.hid (HB.out.trans (hb.mono HB.out.size))
      have HO4 := Lib.hid (own_below HO.out hb (Nat.le_refl _))
      have kk := (hb.block _ (lt_heap ((HB.out.block _ (lt_heap K0.out)).trans K0.out))).trans ((HB.out.block _ (lt_heap K0.out)).trans K0.out)
      have HKK := Lib.hid kk
      clear hb c0 c1 D1 kk HO HB HBw
      have c0 := cell_of (j := 0) HKK.out rfl
      have c1 := cell_of (j := 1) HKK.out rfl
      have hsz4 := HB4.out.size
      cases z1 with
      | true =>
        have HN := Lib.hid (potsTo_yes (d := d) (k := k) (by unfold potIn; rw [← HZ1.out]; rfl))
        go_wp2_with (at_builtin; apply Mk.of)
        unfold Mk
        refine wpList_ints rfl (.tmp 20) (.tmp 22) rfl W1.heap.size (potsTo d k) [(k : Int)] rfl (HO4.out.alloc _) rfl (IsInts.one W4 (k : Int)) (by simp; omega) (by simp; omega) ?_
        intro A6 d6 w6 hw6
        have HW6 := Lib.hid (And.intro hw6.out.1 ((HB4.out.alloc HB4.out.size _).trans hw6.out.2.1))
        clear hw6
        go_wp2_with fail
        go_roundw
        case rel => exact ⟨k + 1, A6, d6, by omega, by go_num, by rw [HN.out, List.length_append]; rfl, Lib.hid (by rw [HN.out]; exact HW6.out.1), Lib.hid HW6.out.2⟩
        case measure => simp [intOf]; omega
      | false =>
        have HBw := Lib.hid (HB1.out.trans (HB4.out.mono HB1.out.size))
        have D2 := Lib.hid (inl_any W4 _ v2 d.second (IsSl.below H2.out HBw.out) HL.out.2 (k : Int))
        obtain ⟨z2, hz2⟩ : ∃ z, z = decide ((k : Int) ∈ d.second) := ⟨_, rfl⟩
        have HZ2 := Lib.hid hz2
        rw [← hz2] at D2
        clear hz2
        go_wp2_with fail
        refine D2.out.mono ?_
        rintro e W5 ⟨rfl, hb⟩
        have HB5 := Lib.hid (HB4.out.trans (hb.mono HB4.out.size))
        have HO5 := Lib.hid (own_below HO4.out hb (Nat.le_refl _))
        have hsz5 := HB5.out.size
        clear hb c0 c1 D2 HO4 HB4 HBw hsz4
        cases z2 with
        | true =>
          have HN := Lib.hid (potsTo_yes (d := d) (k := k) (by unfold potIn; rw [← HZ1.out, ← HZ2.out]; rfl))
          go_wp2_with (at_builtin; apply Mk.of)
          unfold Mk
          refine wpList_ints rfl (.tmp 20) (.tmp 22) rfl W1.heap.size (potsTo d k) [(k : Int)] rfl (HO5.out.alloc _) rfl (IsInts.one W5 (k : Int)) (by simp; omega) (by simp; omega) ?_
          intro A6 d6 w6 hw6
          have HW6 := Lib.hid (And.intro hw6.out.1 ((HB5.out.alloc HB5.out.size _).trans hw6.out.2.1))
          clear hw6
          go_wp2_with fail
          go_roundw
          case rel => exact ⟨k + 1, A6, d6, by omega, by go_num, by rw [HN.out, List.length_append]; rfl, Lib.hid (by rw [HN.out]; exact HW6.out.1), Lib.hid HW6.out.2⟩
          case measure => simp [intOf]; omega
        | false =>
          have HN := Lib.hid (potsTo_no (d := d) (k := k) (by unfold potIn; rw [← HZ1.out, ← HZ2.out]; rfl))
          go_wp2_with fail
          go_roundw
          case rel => exact ⟨k + 1, A, c, by omega, by go_num, by rw [HN.out], Lib.hid (by rw [HN.out]; exact HO5.out), HB5⟩
          case measure => simp [intOf]; omega
    · obtain rfl : k = 192 := by omega
      have hk1 : ¬ ((192 : Nat) : Int) < 192 := by decide
      go_wp2_with fail
      go_ret
      refine ⟨_, rfl, IsSl.mono (IsInts.ofOwn HO.out) (fun q _ (hq : W1.heap.size ≤ q) => by show w.heap.size ≤ q; omega) (by omega), HBw.out⟩
/-- two numbers just laid -/
theorem ints_two {W : World} {g : Nat} {x y : Int} {t : TypeId} (h : W.heap[g]? = some (.cells #[.int .i64 x, .int .i64 y] t (0, 0))) : IsInts W TT (.slice (some ⟨g, 0, none⟩) 2 2) [x, y] := by
  refine ⟨some ⟨g, 0, none⟩, 2, rfl, by simp, by simp, fun _ => ⟨g, 0, rfl, trivial, fun i j hi hj => ?_⟩⟩
  obtain rfl : j = 0 := by omega
  rcases (by simp at hi; omega : i = 0 ∨ i = 1) with rfl | rfl
  · exact cell_of (j := 0) h rfl
  · exact cell_of (j := 1) h rfl
def sanD : Dw.DrawD := ⟨[1, 2], [3, 4], []⟩
theorem san_count : Dw.countD sanD = (2, 0) := by kernel_rfl
theorem san_out : Dw.outcomeD sanD 1 = ([1, 0], 0) := by kernel_rfl
set_option maxRecDepth 20000 in
set_option maxHeartbeats 4000000 in
theorem dsane_any (w : World) : Calls Try.prog 21 #[] w (RetT true w) := by
  go_enter Try.func21, Try.ntmps21
  go_upto_region 2 with fail
  refine nameC fun W1 hW1 => ?_
  have hb1 : Below w.heap.size w W1 := by rw [hW1.out]; exact (((Below.refl _ _).alloc (Nat.le_refl _) _).alloc (by simp) _).alloc (by simp; omega) _
  have k0 : W1.heap[w.heap.size]? = some (.cells #[.int .i64 1, .int .i64 2] 3 (0, 0)) := by rw [hW1.out]; simp only [heap_alloc_if, World.size_alloc]; rw [if_neg (by omega)]; rw [if_neg (by omega)]; rw [if_pos trivial]
  have k1 : W1.heap[w.heap.size + 1]? = some (.cells #[.int .i64 3, .int .i64 4] 3 (0, 0)) := by rw [hW1.out]; simp only [heap_alloc_if, World.size_alloc]; rw [if_neg (by omega)]; rw [if_pos trivial]
  have k2 : W1.heap[w.heap.size + 1 + 1]? = some (.cells #[.slice (some ⟨w.heap.size, 0, none⟩) 2 2, .slice (some ⟨w.heap.size + 1, 0, none⟩) 2 2, .slice none 0 0] 73 (0, 0)) := by rw [hW1.out]; simp only [heap_alloc_if, World.size_alloc]; rw [if_pos trivial]
  obtain ⟨B2, hB2⟩ : ∃ B, B = w.heap.size + 1 + 1 := ⟨_, rfl⟩
  rw [← hB2] at k2 ⊢
  obtain ⟨B1, hB1⟩ : ∃ B, B = w.heap.size + 1 := ⟨_, rfl⟩
  rw [← hB1] at k1 k2 ⊢
  have HD := Lib.hid (show Dw.IsDraw W1 TT (.agg #[.slice (some ⟨w.heap.size, 0, none⟩) 2 2, .slice (some ⟨B1, 0, none⟩) 2 2, .slice none 0 0]) sanD from ⟨_, _, _, rfl, ints_two k0, ints_two k1, IsSl.nil⟩)
  have HB1 := Lib.hid hb1
  have K2 := Lib.hid k2
  have c0 := cell_of (j := 0) k2 rfl
  have c1 := cell_of (j := 1) k2 rfl
  have c2 := cell_of (j := 2) k2 rfl
  clear hW1 hb1 k0 k1 k2 hB1 hB2
  have D1 := Lib.hid (Dw.count_any W1 _ _ sanD HD.out)
  rw [san_count] at D1
  go_wp2_with fail
  refine D1.out.mono ?_
  rintro e W2 ⟨rfl, hb⟩
  have HB2 := Lib.hid (HB1.out.trans (hb.mono HB1.out.size))
  have K3 := Lib.hid ((hb.block _ (lt_heap K2.out)).trans K2.out)
  have HD2 := Lib.hid (Dw.IsDraw.below HD.out hb)
  clear hb c0 c1 c2 D1
  have c0 := cell_of (j := 0) K3.out rfl
  have c1 := cell_of (j := 1) K3.out rfl
  have c2 := cell_of (j := 2) K3.out rfl
  have D2 := Lib.hid (Dw.outcome_any W2 _ _ sanD HD2.out 1)
  rw [san_out] at D2
  go_wp2_with fail
  refine D2.out.mono ?_
  rintro e W4 ⟨pv, rfl, hpv, hb⟩
  have HB4 := Lib.hid (HB2.out.trans (hb.mono HB2.out.size))
  obtain ⟨pA, pc, rfl, -, -, hcells⟩ := id hpv
  obtain ⟨b9, off, rfl, -, hc⟩ := hcells (by decide)
  have e0 : W4.cell? ⟨b9, off, none⟩ = some (.int .i64 1) := hc 0 0 (by decide) (by decide)
  have e1 : W4.cell? ⟨b9, off + 1, none⟩ = some (.int .i64 0) := hc 1 0 (by decide) (by decide)
  clear hb c0 c1 c2 D2 hpv hcells hc
  go_wp2_with fail
  go_ret
  exact ⟨rfl, HB4.out⟩
end Go.Proofs.Ytgaanndidcdbpaa
