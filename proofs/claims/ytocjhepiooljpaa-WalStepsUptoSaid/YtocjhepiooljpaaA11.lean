/- Records of the reference. -/
import Derived.Test.YtocjhepiooljpaaA10
import Derived.Test.YtocjhepiooljpaaB2
namespace Go.Proofs.Ytocjhepiooljpaa
open Go.RowKit Go.Deep Go.Shelf

set_option maxRecDepth 20000 in
set_option maxHeartbeats 4000000 in
theorem refRecords_any (w : World) (M : Nat → Prop) (v : Value) (l : List (List UInt8)) (hl : l.length ≤ 4096) (hs : Sized128 l) (h : IsMat w M v l) :
    Calls Try.prog 34 #[v] w fun e w' => (∃ v', e = .returned v' ∧ IsMat w' (fun b => w.heap.size ≤ b) v' (recs l)) ∧ Below w.heap.size w w' := by
  have CR := Lib.hid fun (W : World) (hB : Below w.heap.size w W) (a : Nat) (ha : a ≤ 4096) => refRecord_any W M v l a hl ha hs (h.below hB)
  obtain ⟨A, c, rfl, -, -, hm⟩ := h
  have HS := Lib.hid hm
  have HSZ := Lib.hid hs
  clear hm hs
  go_enter Try.func34, Try.ntmps34
  go_wp2_with fail
  refine nameC fun W1 hW1 => ?_
  obtain ⟨base, hbase⟩ : ∃ base, base = w.heap.size := ⟨_, rfl⟩
  have HB1 : Hid (Below base w W1) := Lib.hid (by rw [hW1.out, hbase]; exact (Below.refl _ _).alloc (Nat.le_refl _) _)
  have HO1 : Hid (RowsR W1 base (fun b => base ≤ b) (.slice (some ⟨base, 0, none⟩) 0 0) []) := Lib.hid (by rw [hW1.out, hbase]; exact RowsR.empty (heap_alloc_new w _) (Nat.le_refl _))
  have HSz1 : Hid (base ≤ W1.heap.size) := Lib.hid (by rw [hW1.out, hbase]; simp)
  rw [← hbase]
  have HBS := Lib.hid hbase
  clear hW1 hbase
  go_loopw [3, 4, 5] (fun o i g wr => ∃ (a last : Nat) (acc : List (List UInt8)), a ≤ l.length ∧ i = .int .i64 (a : Int) ∧ g = .int .u64 (last : Int) ∧ acc.length ≤ a ∧ Hid (RowsR wr base (fun b => base ≤ b) o acc) ∧ Hid (Below base w wr) ∧ Hid (base ≤ wr.heap.size) ∧ Hid (recs l = acc ++ recsFrom l a last)) (fun _ i _ _ => l.length - (intOf i).toNat)
  case atStart => exact ⟨0, 0, [], Nat.zero_le _, rfl, rfl, by simp, HO1, HB1, HSz1, Lib.hid rfl⟩
  case round =>
    obtain ⟨a, last, acc, ha, rfl, rfl, hacc, HO, HB, HSz, HRC⟩ := hrel
    clear HB1 HO1 HSz1
    obtain ⟨oA, oc, hoe, -, -⟩ := HO.out.len
    subst hoe
    go_wp2_with fail
    refine (CR.out wr (by rw [← HBS.out]; exact HB.out) a (by omega)).mono ?_
    rintro e w2 ⟨⟨v2, n2, rfl, hcase⟩, hb2⟩
    have HB2 := Lib.hid (HB.out.trans (hb2.mono HSz.out))
    have HO2 := Lib.hid (HO.out.below hb2)
    have HSz2 := Lib.hid (Nat.le_trans HSz.out hb2.size)
    rcases hcase with ⟨hr, rfl⟩ | ⟨b, m, hr, rfl, hm, hv2⟩
    · have HE := Lib.hid (show recs l = acc by rw [HRC.out, recsFrom_none hr, List.append_nil])
      clear hr hb2
      go_wp2_with fail
      go_ret
      exact ⟨⟨_, rfl, by rw [HE.out, ← HBS.out]; exact HO2.out.mat (fun _ h => h) (fun _ _ h => h)⟩, by rw [← HBS.out]; exact HB2.out⟩
    · have hp := recAt_pos hr
      obtain ⟨bA, bc, hbe, -, -, -⟩ := id hv2
      subst hbe
      have hal : a < l.length := by omega
      obtain ⟨lb, lo, rfl⟩ := HS.out.head (show 0 < l.length by omega)
      obtain ⟨ab, ao, ac, hlaw, hd1, hd2, hlbw, haBw, ha128⟩ := HS.out.sec HSZ.out hal
      obtain ⟨sa, hsa⟩ : ∃ sa, sa = l[a] := ⟨_, rfl⟩
      rw [← hsa] at haBw ha128
      have hla := (HB2.out.cell (p := ⟨lb, lo + a, none⟩) (by rw [HBS.out]; exact hlbw)).trans hlaw
      have HLA := Lib.hid hla
      have m4 : (sa.take 4).length = 4 := by rw [List.length_take]; omega
      obtain ⟨x, hx⟩ : ∃ x, x = genS sa := ⟨_, rfl⟩
      have hxl : x = genS (l.getD a []) := by rw [hx, hsa, List.getD_eq_getElem?_getD, List.getElem?_eq_getElem hal, Option.getD_some]
      have HX := Lib.hid hxl
      have CY := Lib.hid fun (W : World) (hB : Below w.heap.size w W) => number_any W M (some ⟨ab, ao, none⟩) ac (sa.take 4) (by omega) ((haBw.part 0 4 (by omega)).below hB)
      rw [m4, show num (sa.take 4) = x from hx.symm] at CY
      have HR := Lib.hid hr
      have hm0 : ((m : Int) == 0) = false := by rw [beq_eq_false_iff_ne]; omega
      have ha0 : (0 : Int) ≤ (a : Int) := by omega
      have ha1 : (a : Int) < (l.length : Int) := by omega
      have k4' : ¬ (ac : Int) < 4 := by omega
      have o4' : ¬ ac = 0 := by omega
      have HV2 := Lib.hid hv2
      have HW2 := Lib.hid hb2
      clear hr hsa hx hxl m4 haBw ha128 hlaw hla hv2 hb2
      have hla := HLA.out
      by_cases hxl : x < last
      · have HE := Lib.hid (show recs l = acc by rw [HRC.out, recsFrom_old (by rw [← HX.out]; exact hxl), List.append_nil])
        go_wp2_with (go_at_call 63; refine (CY.out _ (by rw [← HBS.out]; exact HB2.out)).mono ?_; rintro e w3 ⟨rfl, rfl⟩)
        go_ret
        exact ⟨⟨_, rfl, by rw [HE.out, ← HBS.out]; exact HO2.out.mat (fun _ h => h) (fun _ _ h => h)⟩, by rw [← HBS.out]; exact HB2.out⟩
      · have HE := Lib.hid (show recs l = (acc ++ [b]) ++ recsFrom l (a + m) x by rw [HRC.out, recsFrom_some HR.out (by rw [← HX.out]; omega), ← HX.out]; simp)
        go_upto_region 8 with (go_at_call 63; refine (CY.out _ (by rw [← HBS.out]; exact HB2.out)).mono ?_; rintro e w3 ⟨rfl, rfl⟩)
        have HU := Lib.hid (HV2.out.mono (M' := fun q => base ≤ q ∧ (Value.slice oA acc.length oc).ownBlock ≠ some q) (fun q _ hq => ⟨Nat.le_trans HSz.out hq, fun e => by have := own_lt HO.out.choose_spec.1 q e; omega⟩))
        clear HV2
        go_wp2_with (at_builtin; refine wpList_appR (M := fun q => base ≤ q) rfl (.tmp 34) (.tmp 36) rfl base base (.slice oA acc.length oc) (.slice bA b.length bc) acc b rfl (HO2.out.below ((Below.refl _ _).alloc (Nat.le_refl _) _)) (HU.out.below ((Below.refl _ _).alloc (Nat.le_refl _) _)) _ 1 rfl (cell_of (heap_alloc_new _ _) rfl) (by omega) (by rw [World.size_alloc]; exact Nat.le_succ_of_le HSz2.out) (Nat.le_refl _) (HB2.out.alloc HSz2.out _) ?_; intro v4 w4 HO4 HB4 HS4)
        go_roundw
        case rel => exact ⟨a + m, x, acc ++ [b], hp.2, by congr 1, rfl, by rw [List.length_append, List.length_singleton]; omega, HO4, HB4, HS4, HE⟩
        case measure =>
          have := hp.2
          have e1 : (intOf (.int .i64 ((a : Int) + (m : Int)))).toNat = a + m := by simp [intOf]; omega
          have e2 : (intOf (.int .i64 (a : Int))).toNat = a := by simp [intOf]
          omega
end Go.Proofs.Ytocjhepiooljpaa
