/- encode of package wal: a sector. -/
import Derived.Test.YtocjhepiooljpaaA2
import Derived.Test.YtocjhepiooljpaaA4
import Derived.Deep.RegionHeld3
import Derived.Laws.CopyOwn
namespace Go.Proofs.Ytocjhepiooljpaa
open Go.RowKit Go.Deep Go.Shelf

def zs : List UInt8 := List.replicate 128 0
theorem zs_length : zs.length = 128 := by unfold zs; rw [List.length_replicate]
theorem IsBytes.parts {w : World} {M : Nat → Prop} {v : Value} {bs : List UInt8} (h : IsBytes w M v bs) : ∃ A c, v = .slice A bs.length c ∧ bs.length ≤ c ∧ c ≤ 9223372036854775807 ∧ BytesC w M A bs := h
theorem rowB_heap {w : World} {g : Nat} {t : TypeId} {L : List UInt8} (h : w.rowIs g t L.length (bv L)) : w.heap[g]? = some (.cells (L.map byt).toArray t (0, 0)) := by
  obtain ⟨c, hc, hn, hi⟩ := h
  rw [hc]
  congr 2
  refine Array.ext (by simp [hn]) fun i h1 h2 => ?_
  have := hi i (by omega)
  rw [Array.getElem?_eq_getElem h1] at this
  have h3 : i < L.length := by omega
  simp only [Option.some.injEq] at this
  rw [this]
  simp [bv, List.getD_eq_getElem?_getD, h3]
theorem rowB_of {w : World} {g : Nat} {t : TypeId} {L : List UInt8} (h : w.heap[g]? = some (.cells (L.map byt).toArray t (0, 0))) : w.rowIs g t L.length (bv L) := by
  refine ⟨_, h, by simp, fun i hi => ?_⟩
  simp [bv, List.getD_eq_getElem?_getD, hi]
theorem rowB_bytes {w : World} {M : Nat → Prop} {g off n : Nat} {t : TypeId} {L : List UInt8} (h : w.rowIs g t L.length (bv L)) (hM : M g) (hn : off + n ≤ L.length) : BytesC w M (some ⟨g, off, none⟩) ((L.drop off).take n) := fun _ => by
  refine ⟨g, off, rfl, hM, fun i j hi hj => ?_⟩
  rw [List.length_take, List.length_drop] at hi
  obtain rfl : j = 0 := by omega
  rw [Nat.mul_one, Nat.add_zero, h.cell (by omega)]
  show some (byt (L.getD (off + i) 0)) = some (byt (((L.drop off).take n).getD i 0))
  rw [List.getD_eq_getElem?_getD, List.getD_eq_getElem?_getD, List.getElem?_take_of_lt (by omega), List.getElem?_drop]
theorem zeroCells_eq : Try.zeroCells89 = (zs.map byt).toArray := by kernel_rfl

theorem four (x : Nat) : ∃ a b c d, numl x 4 = [a, b, c, d] := by
  have h := numl_length x 4
  match numl x 4, h with
  | [a, b, c, d], _ => exact ⟨a, b, c, d, rfl⟩
theorem two (x : Nat) : ∃ a b, numl x 2 = [a, b] := by
  have h := numl_length x 2
  match numl x 2, h with
  | [a, b], _ => exact ⟨a, b, rfl⟩
/-- the sector as it is laid, before its checksum -/
def laidS (x k : Nat) (kind : UInt8) (b : List UInt8) : List UInt8 := numl x 4 ++ [0, 0, 0, 0] ++ bodyS k kind b
def layA (x k : Nat) (kind : UInt8) (n : Nat) : List UInt8 := ((putL (putL zs 0 4 x) 8 2 k).set 10 kind).set 11 (UInt8.ofNat n)
theorem layA_eq (x k : Nat) (kind : UInt8) (n : Nat) : layA x k kind n = numl x 4 ++ [0, 0, 0, 0] ++ numl k 2 ++ [kind, UInt8.ofNat n] ++ List.replicate 116 0 := by
  obtain ⟨a, b, c, d, e⟩ := four x
  obtain ⟨f, g, e2⟩ := two k
  unfold layA putL zs
  rw [e, e2]
  rfl
theorem layA_length (x k : Nat) (kind : UInt8) (n : Nat) : (layA x k kind n).length = 128 := by rw [layA_eq]; simp [numl_length]
theorem layB_eq (x k : Nat) (kind : UInt8) (b : List UInt8) : (layA x k kind b.length).take 12 ++ b ++ (layA x k kind b.length).drop (12 + b.length) = laidS x k kind b := by
  rw [layA_eq, ← List.drop_drop]
  obtain ⟨p, q, r, s, e⟩ := four x
  obtain ⟨f, g, e2⟩ := two k
  unfold laidS bodyS
  rw [e, e2]
  have : ([p, q, r, s] ++ [0, 0, 0, 0] ++ [f, g] ++ [kind, UInt8.ofNat b.length] ++ List.replicate 116 0).drop 12 = List.replicate 116 0 := rfl
  rw [this, List.drop_replicate]
  simp
theorem laidS_length {x k : Nat} {kind : UInt8} {b : List UInt8} (h : b.length ≤ 116) : (laidS x k kind b).length = 128 := by simp [laidS, numl_length, bodyS_length h]
theorem laidS_put (x k : Nat) (kind : UInt8) (b : List UInt8) : putL (laidS x k kind b) 4 4 (crc (numl x 4 ++ bodyS k kind b)) = secOf x k kind b := by
  obtain ⟨p, q, r, s, e⟩ := four x
  unfold putL laidS secOf
  rw [e]
  rfl
theorem laidS_sum (x k : Nat) (kind : UInt8) (b : List UInt8) (h : b.length ≤ 116) : [((laidS x k kind b).drop 0).take 4, ((laidS x k kind b).drop 8).take 120].flatten = numl x 4 ++ bodyS k kind b := by
  have hl := bodyS_length (k := k) (kind := kind) h
  obtain ⟨p, q, r, s, e⟩ := four x
  unfold laidS
  rw [e]
  have : ([p, q, r, s] ++ [0, 0, 0, 0] ++ bodyS k kind b).drop 8 = bodyS k kind b := rfl
  rw [this, List.take_of_length_le (l := bodyS k kind b) (by omega)]
  show [p, q, r, s] ++ (bodyS k kind b ++ []) = _
  rw [List.append_nil]

set_option maxRecDepth 20000 in
set_option maxHeartbeats 1000000 in
theorem encode_any (w : World) (M : Nat → Prop) (x k : Nat) (kind : UInt8) (b : List UInt8) (u : Value) (hk : k < 9223372036854775808) (hb : b.length ≤ 116) (h : IsBytes w M u b) :
    Calls Try.prog 44 #[.int .u64 (x : Int), .int .i64 (k : Int), .int .u8 ((kind.toNat : Nat) : Int), u] w fun e w' => ∃ v, e = .returned v ∧ IsBytes w' (fun g => w.heap.size ≤ g) v (secOf x k kind b) ∧ Below w.heap.size w w' := by
  obtain ⟨A, c, rfl, hc1, hc2, hc3⟩ := h.parts
  have HS := Lib.hid hc3
  clear h hc3
  have HP := fun W g off n c x L hn hon hL h => Lib.hid (put_any W g off n c x 89 L hn hon hL h)
  go_enter Try.func44, Try.ntmps44
  go_wp2_with fail
  refine nameW fun W1 hW1 => ?_
  obtain ⟨g, hg⟩ : ∃ g, g = w.heap.size := ⟨_, rfl⟩
  have HB1 : Hid (Below g w W1) := Lib.hid (by rw [hW1.out, hg]; exact (Below.refl _ _).alloc (Nat.le_refl _) _)
  have hR1 : W1.rowIs g 89 zs.length (bv zs) := rowB_of (by rw [hW1.out, heap_alloc_if, hg, if_pos rfl, zeroCells_eq])
  rw [← hg]
  have HG := Lib.hid hg
  clear hW1 hg
  refine (HP W1 g 0 4 128 x zs (by omega) (by rw [zs_length]; omega) (by rw [zs_length]; omega) hR1).out.mono ?_
  rintro e W2 ⟨rfl, hR2, hK2⟩
  have HB2 := Lib.hid (HB1.out.trans hK2)
  have e2 : (putL zs 0 4 x).length = zs.length := by unfold putL; simp [zs_length, numl_length]
  obtain ⟨L1, hL1⟩ : ∃ L1, L1 = putL zs 0 4 x := ⟨_, rfl⟩
  rw [← e2, ← hL1] at hR2
  have HL1 := Lib.hid (show L1.length = 128 by rw [hL1, e2, zs_length])
  have HE1 := Lib.hid hL1
  have HR2 := Lib.hid hR2
  clear hR1 hK2 HB1 hR2 hL1 e2
  go_wp2_with fail
  refine (HP W2 g 8 2 120 k L1 (by omega) (by rw [HL1.out]; omega) (by rw [HL1.out]; omega) HR2.out).out.mono ?_
  rintro e W3 ⟨rfl, hR3, hK3⟩
  have HB3 := Lib.hid (HB2.out.trans hK3)
  rw [HL1.out] at hR3
  obtain ⟨L2, hL2⟩ : ∃ L2, L2 = putL L1 8 2 k := ⟨_, rfl⟩
  rw [← hL2] at hR3
  have HE2 := Lib.hid (show L2 = putL (putL zs 0 4 x) 8 2 k by rw [hL2, HE1.out])
  have HN2 := Lib.hid (show L2.length = 128 by have := HL1.out; rw [hL2]; unfold putL; simp [numl_length]; omega)
  have hg3 := hR3.lt
  have hc10 := hR3.cell (i := 10) (by omega)
  have hc11 := hR3.cell (i := 11) (by omega)
  have hf10 := hR3.frozen 10
  have hf11 := hR3.frozen 11
  have HR3 := Lib.hid hR3
  clear hK3 HB2 hR3 hL2 HL1 HE1 HR2
  go_upto_region 5 with fail
  refine nameC fun W4 hW4 => ?_
  have hl8 : (Value.int .u8 (b.length : Int)) = byt (UInt8.ofNat b.length) := by
    unfold byt
    rw [UInt8.toNat_ofNat']
    congr 1
    omega
  have hR4 := rowB_set (i := 11) (rowB_set (i := 10) (HN2.out.symm ▸ HR3.out) rfl kind) (by simp) (UInt8.ofNat b.length)
  have hW4' : W4 = (W3.setCell ⟨g, 10, none⟩ (byt kind)).setCell ⟨g, 11, none⟩ (byt (UInt8.ofNat b.length)) := by rw [hW4.out, ← hl8]; rfl
  rw [← hW4'] at hR4
  have HB4 := Lib.hid (show Below g w W4 by rw [hW4']; exact (HB3.out.setCell (Nat.le_refl _) _).setCell (Nat.le_refl _) _)
  have hl4 : L2.length = ((L2.set 10 kind).set 11 (UInt8.ofNat b.length)).length := by simp
  have he4 : (L2.set 10 kind).set 11 (UInt8.ofNat b.length) = layA x k kind b.length := by rw [HE2.out]; rfl
  rw [hl4, he4] at hR4
  obtain ⟨L4, hL4⟩ : ∃ L4, L4 = layA x k kind b.length := ⟨_, rfl⟩
  rw [← hL4] at hR4
  have HN4 := Lib.hid (show L4.length = 128 by rw [hL4, layA_length])
  have HE4 := Lib.hid hL4
  have HH4 := Lib.hid (rowB_heap hR4)
  have HS4 := Lib.hid (show BytesC W4 M A b from HS.out.keep fun _ _ hp => HB4.out.cell (by rw [HG.out]; exact hp))
  clear hl8 hR4 hW4 hW4' hl4 he4 hL4 hc10 hc11 hf10 hf11 hg3 HR3 HB3 HE2 HN2 HP
  have hb8 : ¬ (116 : Int) < (b.length : Int) := by omega
  go_wp2_with (with_reducible refine wpList_copy_splice rfl _ _ 35 35 rfl 5 Try.underlying35 (by kernel_rfl) _ A 116 116 b.length c rfl rfl g 12 (L4.map byt) 89 ?hg (b.map byt) ?hn ?hpos ?hfit ?h1 g w ?hbel ?hBg ?_)
  case hg => exact HH4.out
  case hpos =>
    intro h0
    obtain ⟨ad, e, hh⟩ := Cells.flat HS4.out h0 (by omega)
    refine ⟨ad, e, fun j y hy => hh j (byt y) ?_⟩
    have hl : j < b.length := (List.getElem?_eq_some_iff.1 hy).1
    have hy' : b[j] = y := (List.getElem?_eq_some_iff.1 hy).2
    simp [flat, hl, hy']
  case hfit => rw [HN4.out]; omega
  case h1 => intro y _; rfl
  case hbel => exact HB4.out
  intro W5 hk5 hb5
  have he5 : splice (L4.map byt) 12 (b.map byt) = (laidS x k kind b).map byt := by
    unfold splice
    rw [← layB_eq, ← HE4.out, List.map_append, List.map_append, List.map_take, List.map_drop, List.length_map, List.append_assoc]
  have hR5 := rowB_of (he5 ▸ hk5.out)
  obtain ⟨L5, hL5⟩ : ∃ L5, L5 = laidS x k kind b := ⟨_, rfl⟩
  rw [← hL5] at hR5
  have HE5 := Lib.hid hL5
  have HN5 := Lib.hid (show L5.length = 128 by rw [hL5, laidS_length hb])
  have HR5 := Lib.hid hR5
  have HB5 := Lib.hid hb5
  have hg5 := hR5.lt
  clear hk5 hb5 he5 hR5 hL5 HS4 HH4 HE4 HN4 HB4 hb8
  go_wp2_with fail
  obtain ⟨q, hq⟩ : ∃ q, q = crc (numl x 4 ++ bodyS k kind b) := ⟨_, rfl⟩
  have hql : q < 4294967296 := by rw [hq]; exact crc_lt _
  have HQ := Lib.hid hq
  have HQW := Lib.hid (show IntKind.u64.wrap (q : Int) = (q : Int) by rw [IntKind.wrap_u64]; omega)
  have CS : ∀ W6, W6 = (W5.alloc (.cells #[.slice (some ⟨g, 0, none⟩) 4 128, .slice (some ⟨g, 8, none⟩) 120 120] 35)).drew → Hid (Calls Try.prog 65 #[.slice (some ⟨W5.heap.size, 0, none⟩) 2 2] W6 fun e w' => e = .returned (.int .u32 (q : Int)) ∧ w'.rowIs g 89 L5.length (bv L5) ∧ Below g w w') := by
    intro W6 h6
    have hb6 : Below W5.heap.size W5 W6 := by rw [h6]; exact ((Below.refl _ _).alloc (Nat.le_refl _) _).drew
    have hr6 := HR5.out.of_block (hb6.block g hg5)
    have hB6 := HB5.out.trans (hb6.mono (by omega))
    have hm : MatC W6 (fun _ => True) (some ⟨W5.heap.size, 0, none⟩) [(L5.drop 0).take 4, (L5.drop 8).take 120] := by
      have hl1 : ((L5.drop 0).take 4).length = 4 := by rw [List.length_take, List.length_drop, HN5.out]; rfl
      have hl2 : ((L5.drop 8).take 120).length = 120 := by rw [List.length_take, List.length_drop, HN5.out]; rfl
      have hx6 : W6.heap[W5.heap.size]? = some (.cells #[.slice (some ⟨g, 0, none⟩) 4 128, .slice (some ⟨g, 8, none⟩) 120 120] 35 (0, 0)) := by rw [h6]; exact heap_alloc_new _ _
      refine ⟨fun i => if i = 0 then .slice (some ⟨g, 0, none⟩) 4 128 else .slice (some ⟨g, 8, none⟩) 120 120, fun _ => ⟨W5.heap.size, 0, rfl, trivial, fun i j hi hj => ?_⟩, fun i hi => ?_⟩
      · obtain rfl : j = 0 := by omega
        have hi2 : i = 0 ∨ i = 1 := by simp at hi; omega
        rcases hi2 with rfl | rfl <;> exact cell_of hx6 rfl
      · have hi2 : i = 0 ∨ i = 1 := by simp at hi; omega
        rcases hi2 with rfl | rfl
        · refine ⟨_, 128, ?_, by show ((L5.drop 0).take 4).length ≤ 128; omega, by omega, rowB_bytes hr6 trivial (by rw [HN5.out]; omega)⟩
          show Value.slice _ 4 128 = .slice _ ((L5.drop 0).take 4).length 128
          rw [hl1]
        · refine ⟨_, 120, ?_, by show ((L5.drop 8).take 120).length ≤ 120; omega, by omega, rowB_bytes hr6 trivial (by rw [HN5.out]; omega)⟩
          show Value.slice _ 120 120 = .slice _ ((L5.drop 8).take 120).length 120
          rw [hl2]
    have hs := sum_any W6 (fun _ => True) (some ⟨W5.heap.size, 0, none⟩) 2 _ (by simp) (by
      intro s hs
      simp only [List.mem_cons, List.not_mem_nil, or_false] at hs
      rcases hs with rfl | rfl <;> (rw [List.length_take]; omega)) hm
    refine Lib.hid (hs.mono fun e w' h => ⟨?_, by rw [h.2]; exact hr6, by rw [h.2]; exact hB6⟩)
    rw [h.1, HE5.out, laidS_sum _ _ _ _ hb, HQ.out]
  have CP : ∀ W7, Hid (W7.rowIs g 89 L5.length (bv L5)) → Hid (Calls Try.prog 64 #[.slice (some ⟨g, 4, none⟩) 4 124, .int .u64 (q : Int)] W7 fun e w' => e = .returned (.tuple #[]) ∧ w'.rowIs g 89 128 (bv (secOf x k kind b)) ∧ Below g W7 w') := fun W7 h7 =>
    Lib.hid ((put_any W7 g 4 4 124 q 89 L5 (by omega) (by rw [HN5.out]; omega) (by rw [HN5.out]; omega) h7.out).mono fun e w' h => ⟨h.1, by have h1 := h.2.1; rw [HN5.out, HE5.out, HQ.out, laidS_put] at h1; exact h1, h.2.2⟩)
  clear hq
  go_region_held3 (fun _ => True) (exact trivial) (first | (go_at_call 65; refine nameW fun W6 hW6 => ?_; refine (CS W6 hW6.out).out.mono ?_; rintro e W7 ⟨rfl, hR7, hB7⟩; have HR7 := Lib.hid hR7; have HB7 := Lib.hid hB7; clear hR7 hB7 hW6) | (go_at_call 64; rw [HQW.out]; refine (CP W7 HR7).out.mono ?_; rintro e W8 ⟨rfl, hR8, hB8⟩; have HR8 := Lib.hid hR8; have HB8 := Lib.hid (HB7.out.trans hB8); clear hR8 hB8))
  go_wp2_with fail
  go_ret
  refine ⟨.slice (some ⟨g, 0, none⟩) 128 128, rfl, ⟨some ⟨g, 0, none⟩, 128, ?_, by rw [secOf_length hb]; omega, by omega, ?_⟩, ?_⟩
  · rw [secOf_length hb]
  · have h9 := rowB_bytes (M := fun g => w.heap.size ≤ g) (off := 0) (n := 128) ((secOf_length (g := x) (k := k) (kind := kind) hb).symm ▸ HR8.out) (by rw [HG.out]; exact Nat.le_refl _) (by rw [secOf_length hb]; omega)
    rw [List.drop_zero, List.take_of_length_le (by rw [secOf_length hb]; omega)] at h9
    exact h9
  · rw [← HG.out]; exact HB8.out
end Go.Proofs.Ytocjhepiooljpaa
