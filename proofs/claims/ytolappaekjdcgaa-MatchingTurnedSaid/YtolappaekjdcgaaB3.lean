/- Hall of package matching. -/
import Derived.Test.YtolappaekjdcgaaB2
namespace Go.Proofs.Ytolappaekjdcgaa
open Go.RowKit Go.Shelf Go.Deep Sm
def HallW (w : World) (g : GrD) (L R : Nat) (e : Ending) (w' : World) : Prop := ∃ v1 lf rf, ∃ Sl Sr : Nat → Bool, e = .returned (.tuple #[v1, .bool (decide ((selN Sl L).length = 0)), .int .i64 0]) ∧ IsInts w' (fun b => w.heap.size ≤ b) v1 (natI (selN Sl L)) ∧ FInv (edB g) L R lf rf L ∧ Rd (edB g) L R lf rf Sl Sr L ∧ Below w.heap.size w w'
set_option maxHeartbeats 4000000 in
theorem hall_yes (w : World) (M : Nat → Prop) (v : Value) (g : GrD) (h : IsGraph w M v g) (hc : chkB g = true) {L R : Nat} (hg : GOk g L R) : Calls Try.prog 21 #[v] w (HallW w g L R) := by
  have CC := fun W (hb : Below w.heap.size w W) => Lib.hid (mcheck_any W M v g (h.below hb))
  have CF := fun W (hb : Below w.heap.size w W) => Lib.hid (find_any W M v g (h.below hb) hg)
  have CR := fun W (hb : Below w.heap.size w W) (bl br : Nat) (lf rf : Nat → Int) (hm : MatW W bl br L R lf rf) (hi : FInv (edB g) L R lf rf L) => Lib.hid (reached_any W M v g (h.below hb) hg hm hi.inv)
  have hL := hg.l512
  have hR := hg.r512
  rw [chkG_yes hc] at CC
  obtain ⟨v2, rfl, -⟩ := h
  rw [hg.left, hg.right] at CC CF CR ⊢
  clear hc hg
  obtain ⟨ii, hii, hz0, hz1, hz2⟩ := info_parts Try.infoI64
  have HIU := Lib.hid (And.intro hii (And.intro hz0 (And.intro hz1 hz2)))
  clear hii hz0 hz1 hz2
  go_enter Try.func21, Try.ntmps21
  go_wp2_with fail
  refine nameW fun W1 hW1 => ?_
  have HB1 : Hid (Below w.heap.size w W1) := by rw [hW1.out]; exact (Below.refl _ _).alloc (Nat.le_refl _) _
  have k1 : W1.heap[w.heap.size]? = some (.cells #[.int .i64 (L : Int), .int .i64 (R : Int), v2] 24 (0, 0)) := by rw [hW1.out, heap_alloc_if, if_pos rfl]
  clear hW1
  refine (CC W1 HB1.out).out.mono ?_
  rintro e w2 ⟨rfl, hb2⟩
  have HB2 := Lib.hid (HB1.out.trans (hb2.mono HB1.out.size))
  have k2 := (hb2.block _ (lt_heap k1)).trans k1
  have hlw := lt_heap k2
  have HK2 := Lib.hid k2
  obtain ⟨c0, c1, c2⟩ := graph_box k2
  clear hb2 HB1 CC k1 k2
  unfold matV at CR
  go_wp2_with fail
  go_region_held3 (fun w' => w'.cell? ⟨w.heap.size, 0, none⟩ = some (.int .i64 (L : Int)) ∧ w'.cell? ⟨w.heap.size, 1, none⟩ = some (.int .i64 (R : Int)) ∧ w'.cell? ⟨w.heap.size, 2, none⟩ = some v2) (first | with_reducible exact ⟨c0, c1, c2⟩ | with_reducible exact ⟨s0, s1, s2⟩ | with_reducible exact ⟨r0, r1, r2⟩ | go_keep) (first | (go_at_call 28; refine (CF _ (by repeat (first | with_reducible exact HB2.out | (with_reducible refine Below.drew ?_)))).out.mono ?_; rintro e w3 ⟨bl, br, lf, rf, rfl, hl, hr, hm, hf, hb3⟩; have HM3 := Lib.hid hm; have HF3 := Lib.hid hf; have HB3 : Hid (Below w2.heap.size w2 w3) := Below.trans (by repeat (first | with_reducible exact Below.refl _ _ | (with_reducible refine Below.drew ?_))) hb3; obtain ⟨s0, s1, s2⟩ := graph_box ((HB3.out.block _ hlw).trans HK2.out); unfold matV; clear hm hf hb3 hl hr) | (go_at_call 30; refine (CR _ (Below.trans HB2.out (Below.mono (by repeat (first | with_reducible exact HB3.out | (with_reducible refine Below.drew ?_))) HB2.out.size)) bl br lf rf (MatW.drews (by repeat (first | with_reducible exact HM3.out | (with_reducible refine MatW.drew ?_)))) HF3.out).out.mono ?_; rintro e w4 ⟨ml, mr, Sl, Sr, nl, nr, rfl, hsl, hsr, hrd, hb4⟩; have HSL := Lib.hid hsl; have HSR := Lib.hid hsr; have HRD := Lib.hid hrd; have HB4 : Hid (Below w3.heap.size w3 w4) := Below.trans (by repeat (first | with_reducible exact Below.refl _ _ | (with_reducible refine Below.drew ?_))) hb4; obtain ⟨r0, r1, r2⟩ := graph_box ((HB4.out.block _ (Nat.lt_of_lt_of_le hlw HB3.out.size)).trans ((HB3.out.block _ hlw).trans HK2.out)); clear hsl hsr hrd hb4))
  have HBW := Lib.hid ((HB2.out.trans (HB3.out.mono HB2.out.size)).trans (HB4.out.mono (Nat.le_trans HB2.out.size HB3.out.size)))
  have HK4 := Lib.hid ((HB4.out.block _ (Nat.lt_of_lt_of_le hlw HB3.out.size)).trans ((HB3.out.block _ hlw).trans HK2.out))
  have hlw4 := lt_heap HK4.out
  clear HB2 HB3 HB4 s0 s1 s2 c0 c1 c2 CF CR HK2 HM3 hlw
  go_wp2_with fail
  go_loopw [2, 22] (fun qv qk wr => ∃ k : Nat, k ≤ L ∧ qk = .int .i64 (k : Int) ∧ Hid (Row25 wr w4.heap.size qv (selN (Sn Sl) k)) ∧ Hid (Below w4.heap.size w4 wr)) (fun _ q _ => L - (intOf q).toNat)
  case atStart => exact ⟨0, Nat.zero_le _, rfl, Lib.hid (own_nil _ _ _ _), Lib.hid (Below.refl _ _)⟩
  case round =>
    obtain ⟨k, hk, rfl, HO, HB⟩ := hrel
    by_cases hlt : k < L
    · have hlt2 : (k : Int) < (L : Int) := by omega
      have hk0 : (0 : Int) ≤ (k : Int) := by omega
      have HWF := Lib.hid (wfI (x := (k : Int)) (by omega) (by omega))
      have HST := Lib.hid (HSL.out.below HB.out (Nat.le_refl _))
      have hlen := selN_len (Sn Sl) k
      cases hs : Sl (k : Int)
      · have HSeen := Lib.hid hs
        have HE := Lib.hid (selN_succ_no (p := (Sn Sl)) (n := k) HSeen.out)
        have HO7 : Hid (Row25 wr w4.heap.size u2 (selN (Sn Sl) (k + 1))) := Lib.hid (by rw [HE.out]; exact HO.out)
        clear hs
        go_wp2_with (at_lookup; refine wpList_lookup_set (w := _) rfl _ _ 49 rfl Try.underlying3 Try.underlying49 Try.underlying4 (Try.zeroBool25 _) rfl HST.out _ rfl HWF.out ?_; rw [HSeen.out])
        exact ⟨⟨k + 1, by omega, by go_num, HO7, HB⟩, by simp [intOf]; omega⟩

      · have HSeen := Lib.hid hs
        have HE := Lib.hid (selN_succ_yes (p := (Sn Sl)) (n := k) HSeen.out)
        clear hs
        go_wp2_with (first | (at_lookup; refine wpList_lookup_set (w := _) rfl _ _ 49 rfl Try.underlying3 Try.underlying49 Try.underlying4 (Try.zeroBool25 _) rfl HST.out _ rfl HWF.out ?_; rw [HSeen.out]) | (at_builtin; refine wpList_append_cells _ rfl _ _ 25 rfl w4.heap.size 3 ii (.int .i64 0) 1 8 Try.underlying25 HIU.out.1 HIU.out.2.1 HIU.out.2.2.1 HIU.out.2.2.2 rfl (by decide) _ (selN (Sn Sl) k).length _ rfl (World.ownsRow.alloc HO.out _) (some ⟨wr.heap.size, 0, none⟩) 1 1 [i64v (k : Int)] rfl rfl (fun _ => ⟨_, rfl, cell_one_new _ _ _⟩) (one_i64 _) (by unfold maxLen; omega) (by omega) (by have := HB.out.size; simp; omega) ?_; intro v7 w7 ho7 hg7 _))
        have HO7 : Hid (Row25 w7 w4.heap.size v7 (selN (Sn Sl) (k + 1))) := Lib.hid (by rw [HE.out]; unfold Row25 natI; rw [List.length_append, List.map_append, List.map_append]; exact ho7)
        have HB7 : Hid (Below w4.heap.size w4 w7) := Lib.hid ((HB.out.alloc HB.out.size _).grown hg7 (by have := HB.out.size; simp; omega) (own_base HO.out))
        clear ho7 hg7
        (try simp only [Act.put])
        go_wp2_with fail
        exact ⟨⟨k + 1, by omega, by go_num, HO7, HB7⟩, by simp [intOf]; omega⟩

    · have hnl : ¬ (k : Int) < (L : Int) := by omega
      obtain rfl : L = k := by omega
      obtain ⟨A2, d2, rfl⟩ := HO.out.sl
      obtain ⟨n, hn⟩ : ∃ n, n = (selN (Sn Sl) L).length := ⟨_, rfl⟩
      rw [← hn]
      have HN := Lib.hid hn
      clear hn
      cases n with
      | zero =>
        go_wp2_with fail
        refine bodyPost_ret (v := .tuple #[.slice A2 0 d2, .bool true, .int .i64 0]) (by simp [results, Try.results21, go_sem]) rfl ⟨.slice A2 (selN (Sn Sl) L).length d2, lf, rf, Sn Sl, Sn Sr, by rw [← HN.out]; rfl, ?_, HF3.out, HRD.out, HBW.out.trans (HB.out.mono HBW.out.size)⟩
        exact IsSl.mono HO.out.ints (fun b _ hb => Nat.le_trans HBW.out.size hb) (by decide)
      | succ n =>
        have hz : ¬ ((n : Int) + 1 = 0) := by omega
        go_wp2_with fail
        refine bodyPost_ret (v := .tuple #[.slice A2 (n + 1) d2, .bool false, .int .i64 0]) (by simp [results, Try.results21, go_sem, hz]) rfl ⟨.slice A2 (selN (Sn Sl) L).length d2, lf, rf, Sn Sl, Sn Sr, by rw [← HN.out]; rfl, ?_, HF3.out, HRD.out, HBW.out.trans (HB.out.mono HBW.out.size)⟩
        exact IsSl.mono HO.out.ints (fun b _ hb => Nat.le_trans HBW.out.size hb) (by decide)
end Go.Proofs.Ytolappaekjdcgaa
