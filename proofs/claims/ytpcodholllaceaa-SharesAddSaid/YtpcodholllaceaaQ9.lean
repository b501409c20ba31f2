import Derived.Test.YtpcodholllaceaaQ6
namespace Go.Proofs.Ytpcodholllaceaa
open Go.RowKit Go.Shelf

/-- the shares at 1 to k -/
def hidL (ys : List Nat) (k : Nat) : List (Nat × Nat) := (List.range k).map fun i => (i + 1, nth ys i % 1152921504606845789)
theorem hidL_len (ys : List Nat) (k : Nat) : (hidL ys k).length = k := by simp [hidL]
theorem hidL_succ (ys : List Nat) (k : Nat) : rowS (hidL ys k) ++ [u64v (k + 1), u64v (nth ys k % 1152921504606845789)] = rowS (hidL ys (k + 1)) := by
  rw [rowS_snoc (hidL ys k) (k + 1, nth ys k % 1152921504606845789)]
  unfold hidL
  rw [List.range_succ, List.map_append]
  rfl
theorem hidL_mem {ys : List Nat} {k : Nat} {s : Nat × Nat} (h : s ∈ hidL ys k) : 1 ≤ s.1 ∧ s.1 ≤ k ∧ s.2 < 1152921504606845789 := by
  unfold hidL at h
  rw [List.mem_map] at h
  obtain ⟨i, hi, rfl⟩ := h
  rw [List.mem_range] at hi
  exact ⟨by show 1 ≤ i + 1; omega, by show i + 1 ≤ k; omega, Nat.mod_lt _ (by decide)⟩
theorem hidL_pair (ys : List Nat) (k y : Nat) : (hidL ys k ++ [(k + 1, y)]).Pairwise (fun a b => a.1 ≠ b.1) := by
  rw [List.pairwise_append]
  refine ⟨?_, List.pairwise_singleton _ _, fun a ha b hb => ?_⟩
  · unfold hidL
    rw [List.pairwise_map]
    exact List.pairwise_lt_range.imp fun h => by show _ + 1 ≠ _ + 1; omega
  · rw [List.mem_singleton] at hb
    rw [hb]
    have := (hidL_mem ha).2.1
    show a.1 ≠ k + 1
    omega
theorem hidL_nice (ys : List Nat) (k y : Nat) (hk : k ≤ 100) : Nice (hidL ys k ++ [(k + 1, y)]) := by
  refine nice_of_pair (fun s hs => ?_) (hidL_pair ys k y)
  have hl : s.1 ≤ 101 := by
    rcases List.mem_append.1 hs with e | e
    · have := (hidL_mem e).2.1; omega
    · rw [List.mem_singleton] at e; rw [e]; show k + 1 ≤ 101; omega
  exact Nat.lt_of_le_of_lt hl (by decide)
theorem hid_joinD (ys : List Nat) (k y : Nat) (hk : k ≤ 4) (hy : y < 1152921504606845789) : joinD (hidL ys k ++ [(k + 1, y)]) ((k : Int) + 1) = (atD (hidL ys k ++ [(k + 1, y)]) 0, 0) := by
  have hlen : (hidL ys k ++ [(k + 1, y)]).length = k + 1 := by rw [List.length_append, hidL_len]; rfl
  have h := join_all (hidL_nice ys k y (by omega)) (by rw [hlen]; omega) (by rw [hlen]; omega) (fun s hs => ?_)
  · rw [hlen] at h
    exact h
  · have hl : 1 ≤ s.1 ∧ s.1 ≤ 192 ∧ s.2 < 1152921504606845789 := by
      rcases List.mem_append.1 hs with e | e
      · have := hidL_mem e; exact ⟨this.1, by omega, this.2.2⟩
      · rw [List.mem_singleton] at e; rw [e]; exact ⟨by show 1 ≤ k + 1; omega, by show k + 1 ≤ 192; omega, hy⟩
    unfold shOk
    rw [decide_eq_true hl.1, decide_eq_true hl.2.1, decide_eq_true hl.2.2]
    rfl
theorem own_flat {w : World} {base e sz n c : Nat} {A : Option Addr} {xs : List Value} (h : w.ownsRow base e sz (.slice A n c) n xs) : 0 < n → ∃ ad, A = some ad ∧ ∀ j u, xs[j]? = some u → w.cell? (ad.add j) = some u := fun hn => by
  rcases h.2 with ⟨_, h0⟩ | ⟨b, cap, cur, e, _⟩
  · omega
  · cases e
    exact ⟨_, rfl, h.cells rfl⟩
theorem flat_below {w w' : World} {n : Nat} {A : Option Addr} {xs : List Value} (h : 0 < n → ∃ ad, A = some ad ∧ ∀ j u, xs[j]? = some u → w.cell? (ad.add j) = some u) (hb : Below w.heap.size w w') : 0 < n → ∃ ad, A = some ad ∧ ∀ j u, xs[j]? = some u → w'.cell? (ad.add j) = some u := fun hn => by
  obtain ⟨ad, e, hc⟩ := h hn
  exact ⟨ad, e, fun j u hj => (hb.cell (lt_of_cell (hc j u hj))).trans (hc j u hj)⟩
theorem isShs_snoc {w : World} {base e n x y : Nat} {v : Value} {L : List (Nat × Nat)} (hL : L.length = n) (h : w.ownsRow base e 2 v (n + 1) (rowS L ++ [u64v x, u64v y])) : IsShs w (fun b => base ≤ b) v (L ++ [(x, y)]) := by
  refine IsShs.ofOwn (e := e) ?_
  rw [List.length_append, hL, ← rowS_snoc]
  exact h
/-- the state of the loop of the inverse -/
def RstQ (S f x a k : Nat) : Prop := Rst S 1152921504606845789 f x a k
theorem RstQ.mk' {S f x a k : Nat} (h : Rst S 1152921504606845789 f x a k) : RstQ S f x a k := h
theorem RstQ.out {S f x a k : Nat} (h : RstQ S f x a k) : Rst S 1152921504606845789 f x a k := h
theorem timesQ_lt (a b : Nat) : timesQ a b < 1152921504606845789 := Nat.mod_lt _ (by decide)
theorem plusQ_lt (a b : Nat) : plusQ a b < 1152921504606845789 := Nat.mod_lt _ (by decide)
theorem timesQ_small {a b : Nat} (ha : a < 1152921504606845789) (hb : b < 1152921504606845789) : timesQ a b = a * b % 1152921504606845789 := by unfold timesQ; rw [Nat.mod_eq_of_lt ha, Nat.mod_eq_of_lt hb]
theorem negQ (a : Nat) : ∃ z r : Nat, Int.tmod (a : Int) 1152921504606845789 = (r : Int) ∧ (a : Int) % 1152921504606845789 = (r : Int) ∧ IntKind.u64.wrap (1152921504606845789 - (r : Int)) = (z : Int) ∧ 1152921504606845789 - a % 1152921504606845789 = z := by
  have h := Nat.mod_lt a (show 0 < 1152921504606845789 by decide)
  exact ⟨1152921504606845789 - a % 1152921504606845789, a % 1152921504606845789, (rem_lit _ _).1, (rem_lit _ _).2, wn (by omega) (by omega), rfl⟩
set_option maxRecDepth 100000 in
set_option maxHeartbeats 4000000 in
theorem law9 (w : World) (M : Nat → Prop) (v : Value) (ys : List Nat) (h : IsU64 w M v ys) (_hx : U64s ys) (hl : ys.length ≤ 140737488355328) (sec : Nat) (_hs : sec < 18446744073709551616) :
    Calls Try.prog 9 #[v, .int .u64 sec] w fun e w' => e = .returned (.bool true) ∧ Below w.heap.size w w' := by
  have H := Lib.hid h
  have CS := fun W => Lib.hid (sane_any W)
  obtain ⟨A, c, rfl, h1, h2, -⟩ := h
  by_cases hbig : 4 < ys.length
  · have hb' : (4 : Int) < (ys.length : Int) := by omega
    go_enter Try.func9, Try.ntmps9
    go_wp2_with fail
    refine (CS _).out.mono ?_
    rintro e w1 ⟨rfl, hb1⟩
    go_wp2_with fail
    go_ret
    exact ⟨rfl, hb1⟩
  · have hb' : ¬ (4 : Int) < (ys.length : Int) := by omega
    obtain ⟨sc, hsc⟩ : ∃ z, sec % 1152921504606845789 = z := ⟨_, rfl⟩
    have HSC : Hid (sc < 1152921504606845789) := by rw [← hsc]; exact Nat.mod_lt _ (by decide)
    have q1 : Int.tmod (sec : Int) 1152921504606845789 = (sc : Int) := by rw [← hsc]; exact (rem_lit _ _).1
    have q2 : (sec : Int) % 1152921504606845789 = (sc : Int) := by rw [← hsc]; exact (rem_lit _ _).2
    clear hsc
    obtain ⟨nx, hnx⟩ : ∃ nx, nx = ys.length + 1 := ⟨_, rfl⟩
    have hw : IntKind.u64.wrap ((ys.length : Int) + 1) = (nx : Int) := wn (by omega) (by omega)
    have HNX := Lib.hid hnx
    have HRL : Hid ((rowS (hidL ys ys.length)).length = ys.length * 2) := by show _ = _; rw [rowS_len, hidL_len]
    have HLN : Hid ((hidL ys ys.length).length = ys.length) := hidL_len _ _
    have CJ := Lib.hid (show ∀ W M' v' z, z < 1152921504606845789 → IsShs W M' v' (hidL ys ys.length ++ [(nx, z)]) → Calls Try.prog 22 #[v', .int .i64 ((ys.length : Int) + 1)] W fun e w' => e = .returned (.tuple #[.int .u64 ((atD (hidL ys ys.length ++ [(nx, z)]) 0 : Nat) : Int), .int .i64 0]) ∧ Below W.heap.size W w' from fun W M' v' z hz hI => by
      have h9 := join_any W M' v' _ hI (by rw [List.length_append, hidL_len]; simp; omega) ((ys.length : Int) + 1)
      rw [hnx, hid_joinD ys ys.length z (by omega) hz, ← hnx] at h9
      exact h9)
    have HHJ := Lib.hid (hid_join (l := hidL ys ys.length) (x := nx) (by rw [hnx]; exact hidL_nice ys _ 0 (by omega)) (fun i hi => by
      rw [List.getD_eq_getElem?_getD, List.getElem?_eq_getElem hi]
      exact (hidL_mem (List.getElem_mem hi)).1) HSC.out)
    obtain ⟨iu, hiu, hz0, hz1, hz2⟩ := info_parts Try.info_sh
    have HIU := Lib.hid (And.intro hiu (And.intro hz0 (And.intro hz1 hz2)))
    clear hiu hz0 hz1 hz2 hnx
    go_enter Try.func9, Try.ntmps9
    go_wp2_with fail
    refine (CS _).out.mono ?_
    rintro e w1 ⟨rfl, hb1⟩
    have HB1 := Lib.hid hb1
    clear hb1
    go_wp2_with fail
    have HE : Hid ((w1.alloc (.cells #[] 36)).ownsRow w.heap.size 36 2 (.slice (some ⟨w1.heap.size, 0, none⟩) 0 0) 0 []) := own_empty (by rw [heap_alloc_if, if_pos rfl]) HB1.out.size
    clear q1 q2
    go_loopw [5, 6] (fun v i wr => ∃ (k : Nat), k ≤ ys.length ∧ i = .int .i64 k ∧ Hid (wr.ownsRow w.heap.size 36 2 v k (rowS (hidL ys k))) ∧ Hid (Below w.heap.size w wr)) (fun _ i _ => ys.length - (intOf i).toNat)
    case atStart => exact ⟨0, Nat.zero_le _, rfl, HE, Lib.hid (HB1.out.alloc HB1.out.size _)⟩
    case round =>
      obtain ⟨k, hk, rfl, HO, HB⟩ := hrel
      by_cases hlt : k < ys.length
      · obtain ⟨b, off, rfl, hbl, hck⟩ := H.out.at_ HB.out hlt
        have hlt' : (k : Int) < (ys.length : Int) := by omega
        have hk0 : (0 : Int) ≤ (k : Int) := by omega
        obtain ⟨K, hK⟩ : ∃ K, K = k + 1 := ⟨_, rfl⟩
        have hwK : IntKind.u64.wrap ((k : Int) + 1) = (K : Int) := wn (by omega) (by omega)
        have MS := Lib.hid (hidL_succ ys k)
        rw [nth_get hlt, ← hK] at MS
        obtain ⟨yq, hyq⟩ : ∃ z, ys[k] % 1152921504606845789 = z := ⟨_, rfl⟩
        have q1 : Int.tmod ((ys[k] : Nat) : Int) 1152921504606845789 = (yq : Int) := by rw [← hyq]; exact (rem_lit _ _).1
        have q2 : ((ys[k] : Nat) : Int) % 1152921504606845789 = (yq : Int) := by rw [← hyq]; exact (rem_lit _ _).2
        rw [hyq] at MS
        have HK := Lib.hid hK
        have hsq := HB.out.size
        clear hK hyq
        go_wp2_with (at_builtin; refine wpList_append_cells _ rfl _ _ 28 rfl w.heap.size 36 iu (.agg #[.int .u64 0, .int .u64 0]) 2 16 Try.underlying28 HIU.out.1 HIU.out.2.1 HIU.out.2.2.1 HIU.out.2.2.2 rfl (by decide) _ k _ rfl (HO.out.alloc _) (some ⟨wr.heap.size, 0, none⟩) 1 1 [u64v K, u64v yq] rfl rfl (by first | exact fun _ => ⟨_, rfl, cell_two_new _ _ _ _⟩ | exact fun _ _ h => h) (by first | exact two_u64 _ _ | exact ⟨rfl, rfl⟩) (by unfold maxLen; omega) (by omega) (by first | omega | (simp; omega)) ?_)
        intro v7 w7 hown7 hgrow7 _
        rw [MS.out] at hown7
        have HO7 : Hid (w7.ownsRow w.heap.size 36 2 v7 (k + 1) (rowS (hidL ys (k + 1)))) := by have := HK.out; subst this; exact hown7
        have HB7 := Lib.hid ((HB.out.alloc hsq _).grown hgrow7 (by simp; omega) (own_base HO.out))
        clear hown7 hgrow7 q1 q2
        go_wp2_with fail
        go_roundw
        case rel => exact ⟨k + 1, by omega, by go_num, HO7, HB7⟩
        case measure => simp [intOf]; omega
      · have hnl : ¬ (k : Int) < (ys.length : Int) := by omega
        obtain rfl : k = ys.length := by omega
        obtain ⟨A5, c5, rfl⟩ := own_slice HO.out
        have HT1 : Hid ((0 : Nat) < 1152921504606845789) := by show _ < _; decide
        have HT2 : Hid ((1 : Nat) < 1152921504606845789) := by show _ < _; decide
        have HBr := Lib.hid (Below.refl wr.heap.size wr)
        have HBw := HB
        clear HB
        have hWs1 := HBr.out.size
        have HE1 : Hid ((wr.alloc (.cells #[] 36)).ownsRow wr.heap.size 36 2 (.slice (some ⟨wr.heap.size, 0, none⟩) 0 0) 0 []) := own_empty (by rw [heap_alloc_if, if_pos rfl]) (Nat.le_refl _)
        have HF1 := Lib.hid (flat_below (own_flat HO.out) ((HBr.out.alloc HBr.out.size (.cells #[] 36))))
        go_wp2_with (at_builtin; refine wpList_append_cells _ rfl _ _ 28 rfl wr.heap.size 36 iu (.agg #[.int .u64 0, .int .u64 0]) 2 16 Try.underlying28 HIU.out.1 HIU.out.2.1 HIU.out.2.2.1 HIU.out.2.2.2 rfl (by decide) _ 0 _ rfl HE1.out A5 ys.length c5 (rowS (hidL ys ys.length)) rfl HRL.out (by first | exact HF1.out | exact fun h => HF1.out (by omega)) (by exact rowS_one _) (by unfold maxLen; omega) (by omega) (by first | omega | (simp; done) | (simp; omega)) ?_)
        intro v1a w1a hown1 hgrow1 hd1; clear hd1
        have HO1 : Hid (w1a.ownsRow wr.heap.size 36 2 v1a ys.length (rowS (hidL ys ys.length))) := by first | exact hown1 | (rw [Nat.zero_add, List.nil_append] at hown1; exact hown1)
        have HBa1 := Lib.hid (((Below.refl wr.heap.size wr).alloc (Nat.le_refl _) (.cells #[] 36)).grown hgrow1 (by simp) (own_base HE1.out))
        clear hown1 hgrow1
        have hs1 := HBa1.out.size
        go_wp2_with (at_builtin; refine wpList_append_cells _ rfl _ _ 28 rfl wr.heap.size 36 iu (.agg #[.int .u64 0, .int .u64 0]) 2 16 Try.underlying28 HIU.out.1 HIU.out.2.1 HIU.out.2.2.1 HIU.out.2.2.2 rfl (by decide) _ ys.length _ rfl (HO1.out.alloc _) (some ⟨w1a.heap.size, 0, none⟩) 1 1 [u64v nx, u64v 0] rfl rfl (by first | exact fun _ => ⟨_, rfl, cell_two_new _ _ _ _⟩ | exact fun _ _ h => h) (by first | exact two_u64 _ _ | exact ⟨rfl, rfl⟩) (by unfold maxLen; omega) (by omega) (by first | omega | (simp; done) | (simp; omega)) ?_)
        intro v1b w1b hownb1 hgrowb1 hd1; clear hd1
        have HI1 := Lib.hid (isShs_snoc HLN.out hownb1)
        have HBb1 := Lib.hid ((HBa1.out.alloc hs1 _).grown hgrowb1 (by simp; omega) (own_base HO1.out))
        clear hownb1 hgrowb1
        go_wp2_with fail
        refine (CJ.out _ _ _ 0 ?_ HI1.out).mono ?_
        · exact HT1.out
        rintro e w1c ⟨rfl, hb1⟩
        have HB1 := Lib.hid (HBr.out.trans ((HBb1.out.trans (hb1.mono HBb1.out.size)).mono HBr.out.size))
        clear hb1 hs1 hWs1
        have hWs2 := HB1.out.size
        have HE2 : Hid ((w1c.alloc (.cells #[] 36)).ownsRow w1c.heap.size 36 2 (.slice (some ⟨w1c.heap.size, 0, none⟩) 0 0) 0 []) := own_empty (by rw [heap_alloc_if, if_pos rfl]) (Nat.le_refl _)
        have HF2 := Lib.hid (flat_below (own_flat HO.out) ((HB1.out.alloc HB1.out.size (.cells #[] 36))))
        go_wp2_with (at_builtin; refine wpList_append_cells _ rfl _ _ 28 rfl w1c.heap.size 36 iu (.agg #[.int .u64 0, .int .u64 0]) 2 16 Try.underlying28 HIU.out.1 HIU.out.2.1 HIU.out.2.2.1 HIU.out.2.2.2 rfl (by decide) _ 0 _ rfl HE2.out A5 ys.length c5 (rowS (hidL ys ys.length)) rfl HRL.out (by first | exact HF2.out | exact fun h => HF2.out (by omega)) (by exact rowS_one _) (by unfold maxLen; omega) (by omega) (by first | omega | (simp; done) | (simp; omega)) ?_)
        intro v2a w2a hown2 hgrow2 hd2; clear hd2
        have HO2 : Hid (w2a.ownsRow w1c.heap.size 36 2 v2a ys.length (rowS (hidL ys ys.length))) := by first | exact hown2 | (rw [Nat.zero_add, List.nil_append] at hown2; exact hown2)
        have HBa2 := Lib.hid (((Below.refl w1c.heap.size w1c).alloc (Nat.le_refl _) (.cells #[] 36)).grown hgrow2 (by simp) (own_base HE2.out))
        clear hown2 hgrow2
        have hs2 := HBa2.out.size
        go_wp2_with (at_builtin; refine wpList_append_cells _ rfl _ _ 28 rfl w1c.heap.size 36 iu (.agg #[.int .u64 0, .int .u64 0]) 2 16 Try.underlying28 HIU.out.1 HIU.out.2.1 HIU.out.2.2.1 HIU.out.2.2.2 rfl (by decide) _ ys.length _ rfl (HO2.out.alloc _) (some ⟨w2a.heap.size, 0, none⟩) 1 1 [u64v nx, u64v 1] rfl rfl (by first | exact fun _ => ⟨_, rfl, cell_two_new _ _ _ _⟩ | exact fun _ _ h => h) (by first | exact two_u64 _ _ | exact ⟨rfl, rfl⟩) (by unfold maxLen; omega) (by omega) (by first | omega | (simp; done) | (simp; omega)) ?_)
        intro v2b w2b hownb2 hgrowb2 hd2; clear hd2
        have HI2 := Lib.hid (isShs_snoc HLN.out hownb2)
        have HBb2 := Lib.hid ((HBa2.out.alloc hs2 _).grown hgrowb2 (by simp; omega) (own_base HO2.out))
        clear hownb2 hgrowb2
        go_wp2_with fail
        refine (CJ.out _ _ _ 1 ?_ HI2.out).mono ?_
        · exact HT2.out
        rintro e w2c ⟨rfl, hb2⟩
        have HB2 := Lib.hid (HB1.out.trans ((HBb2.out.trans (hb2.mono HBb2.out.size)).mono HB1.out.size))
        clear hb2 hs2 hWs2
        generalize atD (hidL ys ys.length ++ [(nx, 0)]) 0 = a at HHJ ⊢
        generalize atD (hidL ys ys.length ++ [(nx, 1)]) 0 = cc at HHJ ⊢
        obtain ⟨z, r, q1, q2, q3, hz⟩ := negQ a
        have CP := fun W => Lib.hid (Plus_any cc z W)
        have CP2 := fun W => Lib.hid (Plus_any sc z W)
        have HZ := Lib.hid hz
        obtain ⟨bb, hbb⟩ : ∃ x, plusQ cc z = x := ⟨_, rfl⟩
        have hbl : bb < 1152921504606845789 := by rw [← hbb]; exact plusQ_lt _ _
        obtain ⟨S, hS⟩ : ∃ S, sqm 1152921504606845789 64 1 bb (1152921504606845789 - 2) = S := ⟨_, rfl⟩
        have HR0 : Hid (RstQ S 64 1 bb (1152921504606845789 - 2)) := RstQ.mk' ⟨hS, by decide, by decide, hbl, by decide⟩
        rw [hbb] at CP
        have HSS := Lib.hid hS
        have HBBe := Lib.hid hbb
        clear hz hbb hbl hS
        go_wp2_with fail
        refine (CP _).out.mono ?_
        rintro e w30 ⟨rfl, rfl⟩
        go_wp2_with fail
        go_loop [13, 14, 15] (fun sx sk sa => ∃ f x a k : Nat, sa = .int .u64 a ∧ sk = .int .u64 k ∧ sx = .int .u64 x ∧ Hid (RstQ S f x a k)) (fun _ sk _ => (intOf sk).toNat)
        case atStart => exact ⟨64, 1, bb, 1152921504606845789 - 2, rfl, rfl, rfl, HR0⟩
        case round =>
          obtain ⟨f, x, a9, k, rfl, rfl, rfl, HR⟩ := hrel
          by_cases hk0 : k = 0
          · subst hk0
            have hxS : x = S := by
              have h := HR.out.out.val
              cases f <;> simpa [sqm] using h
            subst hxS
            have CT := fun W => Lib.hid (Times_any (plusQ sc z) x W)
            have HY : Hid (timesQ (plusQ sc z) x = hidY sc a cc) := by
              show _ = _
              unfold hidY
              rw [HZ.out, HBBe.out, HSS.out]
            rw [HY.out] at CT
            have HT3 : Hid (hidY sc a cc < 1152921504606845789) := timesQ_lt _ _
            obtain ⟨ps, hps⟩ : ∃ x, plusQ sc z = x := ⟨_, rfl⟩
            rw [hps] at CP2 CT
            obtain ⟨yy, hyy⟩ : ∃ x, hidY sc a cc = x := ⟨_, rfl⟩
            rw [hyy] at CT HT3 HHJ
            clear hps HY hyy HR
            go_wp2_with fail
            refine (CP2 _).out.mono ?_
            rintro e w31 ⟨rfl, rfl⟩
            go_wp2_with fail
            refine (CT _).out.mono ?_
            rintro e w31 ⟨rfl, rfl⟩
            clear q1 q2 q3
            have hWs3 := HB2.out.size
            have HE3 : Hid ((w2c.alloc (.cells #[] 36)).ownsRow w2c.heap.size 36 2 (.slice (some ⟨w2c.heap.size, 0, none⟩) 0 0) 0 []) := own_empty (by rw [heap_alloc_if, if_pos rfl]) (Nat.le_refl _)
            have HF3 := Lib.hid (flat_below (own_flat HO.out) ((HB2.out.alloc HB2.out.size (.cells #[] 36))))
            go_wp2_with (at_builtin; refine wpList_append_cells _ rfl _ _ 28 rfl w2c.heap.size 36 iu (.agg #[.int .u64 0, .int .u64 0]) 2 16 Try.underlying28 HIU.out.1 HIU.out.2.1 HIU.out.2.2.1 HIU.out.2.2.2 rfl (by decide) _ 0 _ rfl HE3.out A5 ys.length c5 (rowS (hidL ys ys.length)) rfl HRL.out (by first | exact HF3.out | exact fun h => HF3.out (by omega)) (by exact rowS_one _) (by unfold maxLen; omega) (by omega) (by first | omega | (simp; done) | (simp; omega)) ?_)
            intro v3a w3a hown3 hgrow3 hd3; clear hd3
            have HO3 : Hid (w3a.ownsRow w2c.heap.size 36 2 v3a ys.length (rowS (hidL ys ys.length))) := by first | exact hown3 | (rw [Nat.zero_add, List.nil_append] at hown3; exact hown3)
            have HBa3 := Lib.hid (((Below.refl w2c.heap.size w2c).alloc (Nat.le_refl _) (.cells #[] 36)).grown hgrow3 (by simp) (own_base HE3.out))
            clear hown3 hgrow3
            have hs3 := HBa3.out.size
            go_wp2_with (at_builtin; refine wpList_append_cells _ rfl _ _ 28 rfl w2c.heap.size 36 iu (.agg #[.int .u64 0, .int .u64 0]) 2 16 Try.underlying28 HIU.out.1 HIU.out.2.1 HIU.out.2.2.1 HIU.out.2.2.2 rfl (by decide) _ ys.length _ rfl (HO3.out.alloc _) (some ⟨w3a.heap.size, 0, none⟩) 1 1 [u64v nx, u64v yy] rfl rfl (by first | exact fun _ => ⟨_, rfl, cell_two_new _ _ _ _⟩ | exact fun _ _ h => h) (by first | exact two_u64 _ _ | exact ⟨rfl, rfl⟩) (by unfold maxLen; omega) (by omega) (by first | omega | (simp; done) | (simp; omega)) ?_)
            intro v3b w3b hownb3 hgrowb3 hd3; clear hd3
            have HI3 := Lib.hid (isShs_snoc HLN.out hownb3)
            have HBb3 := Lib.hid ((HBa3.out.alloc hs3 _).grown hgrowb3 (by simp; omega) (own_base HO3.out))
            clear hownb3 hgrowb3
            go_wp2_with fail
            refine (CJ.out _ _ _ yy ?_ HI3.out).mono ?_
            · exact HT3.out
            rintro e w3c ⟨rfl, hb3⟩
            have HB3 := Lib.hid (HB2.out.trans ((HBb3.out.trans (hb3.mono HBb3.out.size)).mono HB2.out.size))
            clear hb3 hs3 hWs3
            rw [HHJ.out]
            go_wp2_with fail
            go_ret
            exact ⟨by simp, HBw.out.trans (HB3.out.mono HBw.out.size)⟩
          · obtain ⟨g, hf, hlt, hst⟩ := sqm_step (m := 1152921504606845789) (x := x) (a := a9) hk0 HR.out.out.lt
            have hv := hst.symm.trans HR.out.out.val
            have C1 := fun W => Lib.hid (Times_any x a9 W)
            have C2 := fun W => Lib.hid (Times_any a9 a9 W)
            rw [timesQ_small HR.out.out.x_lt HR.out.out.a_lt] at C1
            rw [timesQ_small HR.out.out.a_lt HR.out.out.a_lt] at C2
            obtain ⟨y, hy⟩ : ∃ y, x * a9 % 1152921504606845789 = y := ⟨_, rfl⟩
            obtain ⟨b, hb⟩ : ∃ b, a9 * a9 % 1152921504606845789 = b := ⟨_, rfl⟩
            have hyl : y < 1152921504606845789 := by rw [← hy]; exact Nat.mod_lt _ (by decide)
            have hbl : b < 1152921504606845789 := by rw [← hb]; exact Nat.mod_lt _ (by decide)
            rw [hy] at C1 hv
            rw [hb] at C2 hv
            have hp : (0 : Int) < (k : Int) := by omega
            have hk2 := half64 HR.out.out.k64
            have hw2 : IntKind.u64.wrap ((k : Int) / 2) = ((k / 2 : Nat) : Int) := wn (by omega) hk2
            have HK0 := Lib.hid hk0
            clear _hs _hx HSS HR0 HBBe HZ HSC HT1 HT2
            clear hw hb' hnl h1 h2 hl hbig HHJ CJ HF1 HF2 HE1 HE2 HO1 HO2 HBa1 HBa2 HI1 HI2 HBb1 HBb2
            by_cases ho : k % 2 = 1
            · rw [if_pos ho] at hv
              have HP : Hid (RstQ S g y b (k / 2)) := RstQ.mk' ⟨hv, hlt, hk2, hbl, hyl⟩
              have ho1 : (k : Int) % 2 = 1 := by omega
              clear hv hst hlt hyl hbl hy hb hk2 ho hf hk0 q1 q2 q3
              go_wp2_with fail
              refine (C1 _).out.mono ?_
              rintro e w41 ⟨rfl, rfl⟩
              go_wp2_with fail
              refine (C2 _).out.mono ?_
              rintro e w42 ⟨rfl, rfl⟩
              go_wp2_with fail
              go_round
              case rel => exact ⟨g, y, b, k / 2, rfl, rfl, rfl, HP⟩
              case measure => have := HK0.out; simp [intOf]; omega
            · rw [if_neg ho] at hv
              have HP : Hid (RstQ S g x b (k / 2)) := RstQ.mk' ⟨hv, hlt, hk2, hbl, HR.out.out.x_lt⟩
              have ho1 : (k : Int) % 2 = 0 := by omega
              clear hv hst hlt hyl hbl hy hb hk2 ho hf hk0 q1 q2 q3
              go_wp2_with fail
              refine (C2 _).out.mono ?_
              rintro e w42 ⟨rfl, rfl⟩
              go_wp2_with fail
              go_round
              case rel => exact ⟨g, x, b, k / 2, rfl, rfl, rfl, HP⟩
              case measure => have := HK0.out; simp [intOf]; omega
end Go.Proofs.Ytpcodholllaceaa
