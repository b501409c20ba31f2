/- sane: the examples of the chapter, run. -/
import Derived.Test.YtolappaekjdcgaaL6
import Derived.Test.YtolappaekjdcgaaB3
namespace Go.Proofs.Ytolappaekjdcgaa
open Go.RowKit Sm
def All : Nat → Prop := fun _ => True
theorem edges_at {w : World} {b : Nat} {l : List (Int × Int)} {cs : Array Value} {t : TypeId} {z : Nat × Nat} (h : w.heap[b]? = some (.cells cs t z)) (hc : ∀ i j, i < l.length → j < 2 → cs[i * 2 + j]? = some (edc (l.getD i (0, 0)) j)) (hl : l.length ≤ 1000) : IsEdges w All (.slice (some ⟨b, 0, none⟩) l.length l.length) l :=
  ⟨some ⟨b, 0, none⟩, l.length, rfl, Nat.le_refl _, by omega, fun _ => ⟨b, 0, rfl, trivial, fun i j hi hj => by rw [Nat.zero_add]; exact cell_of h (hc i j hi hj)⟩⟩
theorem ints_at {w : World} {b : Nat} {l : List Int} {cs : Array Value} {t : TypeId} {z : Nat × Nat} (h : w.heap[b]? = some (.cells cs t z)) (hc : ∀ i, i < l.length → cs[i]? = some (.int .i64 (l.getD i 0))) (hl : l.length ≤ 1000) : IsInts w All (.slice (some ⟨b, 0, none⟩) l.length l.length) l :=
  ⟨some ⟨b, 0, none⟩, l.length, rfl, Nat.le_refl _, by omega, fun _ => ⟨b, 0, rfl, trivial, fun i j hi hj => by
    obtain rfl : j = 0 := by omega
    rw [Nat.zero_add, Nat.mul_one, Nat.add_zero]; exact cell_of h (hc i hi)⟩⟩
theorem ints_sl {w : World} {M : Nat → Prop} {v : Value} {l : List Int} {n : Nat} (h : IsInts w M v l) (hn : l.length = n) : ∃ A c, v = .slice A n c := by
  obtain ⟨A, c, e, -⟩ := h
  exact ⟨A, c, by rw [e, hn]⟩
set_option maxHeartbeats 4000000 in
set_option maxRecDepth 100000 in
theorem sane_any (w : World) : Calls Try.prog 10 #[] w (BoolW true w) := by
  go_enter Try.func10, Try.ntmps10
  go_wp2_with fail
  refine nameW fun W1 hW1 => ?_
  have HB1 : Hid (Below w.heap.size w W1) := by rw [hW1.out]; exact ((Below.refl _ _).alloc (Nat.le_refl _) _).alloc (by simp) _
  have ke : W1.heap[w.heap.size]? = some (.cells #[.int .i64 0, .int .i64 0, .int .i64 1, .int .i64 0] 46 (0, 0)) := by rw [hW1.out, heap_alloc_if, if_neg (by simp), heap_alloc_if, if_pos rfl]
  have kg : W1.heap[w.heap.size + 1]? = some (.cells #[.int .i64 2, .int .i64 1, .slice (some ⟨w.heap.size, 0, none⟩) 2 2] 24 (0, 0)) := by rw [hW1.out, heap_alloc_if, if_pos (by simp)]
  clear hW1
  have hg1 : IsGraph W1 All (.agg #[.int .i64 2, .int .i64 1, .slice (some ⟨w.heap.size, 0, none⟩) 2 2]) gA := ⟨_, rfl, edges_at (l := gA.edges) ke (fun i j hi hj => by
    have hi : i < 2 := hi
    match i, j, hi, hj with
    | 0, 0, _, _ => rfl
    | 0, 1, _, _ => rfl
    | 1, 0, _, _ => rfl
    | 1, 1, _, _ => rfl) (by decide)⟩
  have HG1 := Lib.hid hg1
  have HK1 := Lib.hid kg
  have hlg := lt_heap kg
  clear ke kg hg1
  refine (max_yes W1 All _ gA HG1.out chkA gokA).mono ?_
  rintro e w2 ⟨v2, lf2, rf2, rfl, hi2, hf2, hb2⟩
  have HZ2 : Hid (szI ((List.range 2).map lf2) = 1) := Lib.hid (by rw [szI_map _ hf2.inv.ll]; exact sizeA hf2)
  obtain ⟨A2, d2, rfl⟩ := ints_sl hi2 (n := 2) (by simp)
  have HI2 := Lib.hid hi2
  have HB2 := Lib.hid (HB1.out.trans (hb2.mono HB1.out.size))
  have HG2 := Lib.hid (HG1.out.below hb2)
  have HK2 := Lib.hid ((hb2.block _ hlg).trans HK1.out)
  have hlg2 := lt_heap HK2.out
  obtain ⟨c0, c1, c2⟩ := graph_box HK2.out
  clear hi2 hf2 hb2 HG1 HK1 HB1 hlg
  go_wp2_with fail
  refine (hall_yes w2 All _ gA HG2.out chkA gokA).mono ?_
  rintro e w3 ⟨v3, lf3, rf3, Sl3, Sr3, he3, hi3, hf3, hd3, hb3⟩
  have hl3 := (lensA hf3 hd3).1
  rw [hl3] at he3
  obtain ⟨A3, d3, rfl⟩ := ints_sl hi3 (n := 2) (by rw [natI_len]; exact hl3)
  obtain rfl : e = .returned (.tuple #[.slice A3 2 d3, .bool false, .int .i64 0]) := he3
  have HB3 := Lib.hid (HB2.out.trans (hb3.mono HB2.out.size))
  have HG3 := Lib.hid (HG2.out.below hb3)
  have HK3 := Lib.hid ((hb3.block _ hlg2).trans HK2.out)
  have HI3 := Lib.hid (IsSl.below HI2.out hb3)
  have hlg3 := lt_heap HK3.out
  clear hl3 hi3 hf3 hd3 hb3 c0 c1 c2 HB2 HG2 HK2 HI2 hlg2
  go_wp2_with fail
  refine (max_yes w3 All _ gB ⟨.slice none 0 0, rfl, IsSl.nil⟩ chkB' gokB).mono ?_
  rintro e w4 ⟨v4, lf4, rf4, rfl, hi4, -, hb4⟩
  obtain ⟨A4, d4, rfl⟩ := ints_sl hi4 (n := 0) (by simp)
  have HB4 := Lib.hid (HB3.out.trans (hb4.mono HB3.out.size))
  have HG4 := Lib.hid (HG3.out.below hb4)
  have HK4 := Lib.hid ((hb4.block _ hlg3).trans HK3.out)
  have HI4 := Lib.hid (IsSl.below HI3.out hb4)
  have hlg4 := lt_heap HK4.out
  clear hi4 hb4 HB3 HG3 HK3 HI3 hlg3
  go_wp2_with fail
  refine (hall_yes w4 All _ gC ⟨.slice none 0 0, rfl, IsSl.nil⟩ chkC gokC).mono ?_
  rintro e w5 ⟨v5, lf5, rf5, Sl5, Sr5, he5, hi5, hf5, hd5, hb5⟩
  have hl5 := lenC hf5 hd5
  rw [hl5] at he5
  obtain ⟨A5, d5, rfl⟩ := ints_sl hi5 (n := 1) (by rw [natI_len]; exact hl5)
  obtain rfl : e = .returned (.tuple #[.slice A5 1 d5, .bool false, .int .i64 0]) := he5
  have HB5 := Lib.hid (HB4.out.trans (hb5.mono HB4.out.size))
  have HG5 := Lib.hid (HG4.out.below hb5)
  have HK5 := Lib.hid ((hb5.block _ hlg4).trans HK4.out)
  have HI5 := Lib.hid (IsSl.below HI4.out hb5)
  have hlg5 := lt_heap HK5.out
  obtain ⟨c0, c1, c2⟩ := graph_box HK5.out
  clear hl5 hi5 hf5 hd5 hb5 HB4 HG4 HK4 HI4 hlg4
  go_wp2_with fail
  refine (cover_yes w5 All _ gA HG5.out chkA gokA).mono ?_
  rintro e w6 ⟨v6, u6, lf6, rf6, Sl6, Sr6, rfl, hi6, hj6, hf6, hd6, hb6⟩
  obtain ⟨-, l6, m6⟩ := lensA hf6 hd6
  obtain ⟨A6, d6, rfl⟩ := ints_sl hi6 (n := 0) (by rw [natI_len]; exact l6)
  obtain ⟨E6, e6, rfl⟩ := ints_sl hj6 (n := 1) (by rw [natI_len]; exact m6)
  have HB6 := Lib.hid (HB5.out.trans (hb6.mono HB5.out.size))
  have HG6 := Lib.hid (HG5.out.below hb6)
  have HK6 := Lib.hid ((hb6.block _ hlg5).trans HK5.out)
  have HI6 := Lib.hid (IsSl.below HI5.out hb6)
  have hlg6 := lt_heap HK6.out
  obtain ⟨c0, c1, c2⟩ := graph_box HK6.out
  have CSZ := Lib.hid (size_any w6 _ _ _ HI6.out)
  rw [HZ2.out] at CSZ
  clear l6 m6 hi6 hj6 hf6 hd6 hb6 HB5 HG5 HK5 HI5 hlg5
  go_wp2_with fail
  refine CSZ.out.mono ?_
  rintro e w7 ⟨rfl, rfl⟩
  go_wp2_with fail
  refine nameW fun W7 hW7 => ?_
  have hB7 : Below w6.heap.size w6 W7 := by rw [hW7.out]; exact (Below.refl _ _).alloc (Nat.le_refl _) _
  have hk7 : W7.heap[w6.heap.size]? = some (.cells #[.int .i64 (-1), .int .i64 (-1)] 3 (0, 0)) := by rw [hW7.out, heap_alloc_if, if_pos rfl]
  have CV := Lib.hid (valid_any W7 All All _ _ gA [-1, -1] (HG6.out.below hB7) (ints_at hk7 (fun i hi => by
    have hi : i < 2 := hi
    match i, hi with
    | 0, _ => rfl
    | 1, _ => rfl) (by decide)) (by decide))
  rw [validG_yes valA] at CV
  have HB7 := Lib.hid (HB6.out.trans (hB7.mono HB6.out.size))
  clear hW7 hB7 hk7
  refine CV.out.mono ?_
  rintro e w8 ⟨rfl, hb8⟩
  have HB8 := Lib.hid (HB7.out.trans (hb8.mono HB7.out.size))
  clear hb8 CV HB7 CSZ c0 c1 c2
  go_wp2_with fail
  refine nameW fun W9 hW9 => ?_
  have hB9 : Below w8.heap.size w8 W9 := by rw [hW9.out]; exact (Below.refl _ _).alloc (Nat.le_refl _) _
  have hk9 : W9.heap[w8.heap.size]? = some (.cells #[.int .i64 0, .int .i64 0, .int .i64 0, .int .i64 0] 46 (0, 0)) := by rw [hW9.out, heap_alloc_if, if_pos rfl]
  have CD := Lib.hid (mcheck_any W9 All _ gD ⟨_, rfl, edges_at (l := gD.edges) hk9 (fun i j hi hj => by
    have hi : i < 2 := hi
    match i, j, hi, hj with
    | 0, 0, _, _ => rfl
    | 0, 1, _, _ => rfl
    | 1, 0, _, _ => rfl
    | 1, 1, _, _ => rfl) (by decide)⟩)
  rw [chkG_no chkD] at CD
  have HB9 := Lib.hid (HB8.out.trans (hB9.mono HB8.out.size))
  clear hW9 hB9 hk9
  refine CD.out.mono ?_
  rintro e w10 ⟨rfl, hb10⟩
  have HB10 := Lib.hid (HB9.out.trans (hb10.mono HB9.out.size))
  clear hb10 CD HB9
  go_wp2_with fail
  refine nameW fun W11 hW11 => ?_
  have hB11 : Below w10.heap.size w10 W11 := by rw [hW11.out]; exact (Below.refl _ _).alloc (Nat.le_refl _) _
  have hk11 : W11.heap[w10.heap.size]? = some (.cells #[.int .i64 0] 3 (0, 0)) := by rw [hW11.out, heap_alloc_if, if_pos rfl]
  have CE := Lib.hid (valid_any W11 All All _ _ gE [0] ⟨.slice none 0 0, rfl, IsSl.nil⟩ (ints_at hk11 (fun i hi => by
    have hi : i < 1 := hi
    match i, hi with
    | 0, _ => rfl) (by decide)) (by decide))
  rw [validG_no valE] at CE
  have HB11 := Lib.hid (HB10.out.trans (hB11.mono HB10.out.size))
  clear hW11 hB11 hk11
  refine CE.out.mono ?_
  rintro e w12 ⟨rfl, hb12⟩
  go_wp2_with fail
  go_ret
  exact ⟨rfl, HB11.out.trans (hb12.mono HB11.out.size)⟩
end Go.Proofs.Ytolappaekjdcgaa
