/- Capacity of the reference. -/
import Derived.Test.YtikddknhcfhnbaaA5
namespace Go.Proofs.Ytikddknhcfhnbaa
open Go.RowKit
def PairE (w : World) (r : Int × Int) (e : Ending) (w' : World) : Prop := e = .returned (.tuple #[.int .i64 r.1, .int .i64 r.2]) ∧ Below w.heap.size w w'
theorem capTo_le {n : NetD} {V : Nat} (h : NOk n V) (s : List Int) : ∀ {k : Nat}, k ≤ n.arcs.length → 0 ≤ capTo n s k ∧ capTo n s k ≤ 1073741824 * (k : Int)
  | 0, _ => by simp [capTo]
  | k + 1, hk => by
    have ih := capTo_le h s (k := k) (by omega)
    obtain ⟨a, b, c, e, -, -, -, -, hc⟩ := h.arc k (by omega)
    unfold capTo
    rw [e]
    dsimp only
    split <;> omega
set_option maxHeartbeats 1000000 in
theorem rcap_any (w : World) (M1 M2 : Nat → Prop) (v1 v2 : Value) (n : NetD) (s : List Int) (h1 : IsNet w M1 v1 n) (h2 : IsInts w M2 v2 s) :
    Calls Try.prog 15 #[v1, v2] w (PairE w (capF n s)) := by
  have HN := Lib.hid h1
  have HS := Lib.hid h2
  obtain ⟨va, rfl, h3⟩ := h1
  have HA := Lib.hid h3
  obtain ⟨A, c, rfl, -⟩ := h3
  have CK := fun W (hb : Below w.heap.size w W) => Lib.hid (rcheck_any W M1 _ n (HN.out.below hb))
  cases hc : chkN n
  · have HZ := Lib.hid (show capF n s = (0, 270) by unfold capF; rw [hc]; rfl)
    rw [chkF_no hc] at CK
    go_enter Try.func15, Try.ntmps15
    go_wp2_with fail
    refine nameW fun W1 hW1 => ?_
    have hB1 : Below w.heap.size w W1 := by rw [hW1.out]; exact (Below.refl w.heap.size w).alloc (Nat.le_refl _) _
    refine (CK W1 hB1).out.mono ?_
    rintro e W2 ⟨rfl, hB2⟩
    clear hW1
    have HB := Lib.hid (hB1.trans (hB2.mono hB1.size))
    clear hB1 hB2
    go_wp2_with fail
    go_ret2
    exact ⟨by rw [HZ.out]; rfl, HB.out⟩
  obtain ⟨V, hV⟩ := nok_of hc
  have HV := Lib.hid hV
  have CS := fun W (hb : Below w.heap.size w W) => Lib.hid (rside_any W M1 M2 _ _ n s (HN.out.below hb) (IsSl.below HS.out hb) (by rw [hV.vs]; have := hV.lo; omega) (by rw [hV.vs]; have := hV.hi; omega))
  rw [chkF_yes hc] at CK
  have HC := Lib.hid hc
  clear hc hV
  go_enter Try.func15, Try.ntmps15
  go_wp2_with fail
  refine nameW fun W1 hW1 => ?_
  have hB1 : Below w.heap.size w W1 := by rw [hW1.out]; exact (Below.refl w.heap.size w).alloc (Nat.le_refl _) _
  have hb1 : W1.heap[w.heap.size]? = some (.cells #[.int .i64 n.vs, .slice A n.arcs.length c] 24 (0, 0)) := by rw [hW1.out, heap_alloc_if, if_pos rfl]
  refine (CK W1 hB1).out.mono ?_
  rintro e W2 ⟨rfl, hB2⟩
  have hb2 := (hB2.block w.heap.size (lt_heap hb1)).trans hb1
  have HB2 := Lib.hid (hB1.trans (hB2.mono hB1.size))
  have HX2 := Lib.hid hb2
  have c0 := cell_of (j := 0) hb2 rfl
  have c1 := cell_of (j := 1) hb2 rfl
  clear hW1 hB1 hb1 hB2 hb2 CK
  have CS2 := CS W2 HB2.out
  clear CS
  cases hs : sideB n s
  · have HZ := Lib.hid (show capF n s = (0, 1) by unfold capF; rw [HC.out, hs]; rfl)
    rw [hs] at CS2
    clear hs
    go_wp2_with fail
    refine CS2.out.mono ?_
    rintro e W3 ⟨rfl, hB3⟩
    go_wp2_with fail
    go_ret2
    exact ⟨by rw [HZ.out]; rfl, HB2.out.trans (hB3.mono HB2.out.size)⟩
  have HZ := Lib.hid (show capF n s = (capTo n s n.arcs.length, 0) by unfold capF; rw [HC.out, hs]; rfl)
  rw [hs] at CS2
  clear hs
  go_wp2_with fail
  refine CS2.out.mono ?_
  rintro e W3 ⟨rfl, hB3⟩
  have hb3 := (hB3.block w.heap.size (lt_heap HX2.out)).trans HX2.out
  have HB3 := Lib.hid (HB2.out.trans (hB3.mono HB2.out.size))
  have HX3 := Lib.hid hb3
  clear hB3 hb3 c0 c1 CS2 HX2
  obtain ⟨A2, c2, rfl, -⟩ := id HS.out
  go_wp2_with fail
  go_loopw [6, 7] (fun q6 q7 wr => ∃ k : Nat, k ≤ n.arcs.length ∧ q6 = .int .i64 (capTo n s k) ∧ q7 = .int .i64 (k : Int) ∧ Hid (Below w.heap.size w wr) ∧ Hid (wr.heap[w.heap.size]? = some (.cells #[.int .i64 n.vs, .slice A n.arcs.length c] 24 (0, 0)))) (fun _ q _ => n.arcs.length - (intOf q).toNat)
  case atStart => exact ⟨0, Nat.zero_le _, rfl, rfl, HB3, HX3⟩
  case round =>
    obtain ⟨k, hk, rfl, rfl, HB, HX⟩ := hrel
    have hbl := lt_heap HX.out
    have g0 := cell_of (j := 0) HX.out rfl
    have g1 := cell_of (j := 1) HX.out rfl
    by_cases hlt : k < n.arcs.length
    · have hlt2 : (k : Int) < (n.arcs.length : Int) := by omega
      have hk0 : (0 : Int) ≤ (k : Int) := by omega
      obtain ⟨b, off, rfl, hb, e0, e1, e2⟩ := HA.out.at_ HB.out hlt
      have hbw : b < wr.heap.size := Nat.lt_of_lt_of_le hb HB.out.size
      have hcl := capTo_le HV.out s hk
      have hcl2 := capTo_le HV.out s (show k + 1 ≤ n.arcs.length from hlt)
      have hlen := HV.out.len
      have HST : Hid (capTo n s (k + 1) = capTo n s k + if s.contains (nthA n.arcs k).src && !s.contains (nthA n.arcs k).dst then (nthA n.arcs k).cap else 0) := Lib.hid rfl
      have CH := fun W (hb : Below w.heap.size w W) (x : Int) => Lib.hid (has_any W M2 _ s (IsSl.below HS.out hb) x)
      obtain ⟨a, ha⟩ : ∃ a, a = nthA n.arcs k := ⟨_, rfl⟩
      rw [← ha] at e0 e1 e2 HST
      obtain ⟨x, y, u⟩ := a
      dsimp only at e0 e1 e2 HST
      obtain ⟨t, ht⟩ : ∃ t, t = capTo n s k := ⟨_, rfl⟩
      obtain ⟨t', ht'⟩ : ∃ t, t = capTo n s (k + 1) := ⟨_, rfl⟩
      rw [← ht] at hcl HST ⊢
      rw [← ht'] at hcl2 HST
      have HT' := Lib.hid ht'
      clear ha ht ht'
      have CX := CH wr HB.out x
      cases hx : s.contains x
      · rw [hx] at CX HST
        clear hx
        have HTT := Lib.hid (show t' = t by rw [HST.out]; simp)
        go_wp2_with fail
        refine CX.out.mono ?_
        rintro e w5 ⟨rfl, hD⟩
        have hB5 := hD.below
        have HB5 := Lib.hid (HB.out.trans (hB5.mono HB.out.size))
        have HX5 := Lib.hid ((hB5.block _ hbl).trans HX.out)
        clear hD hB5 g0 g1 e0 e1 e2
        go_wp2_with fail
        go_roundw
        case rel => exact ⟨k + 1, by omega, by rw [← HT'.out, HTT.out], by go_num, HB5, HX5⟩
        case measure => simp [intOf]; omega
      · rw [hx] at CX HST
        clear hx
        go_wp2_with fail
        refine CX.out.mono ?_
        rintro e w5 ⟨rfl, hD⟩
        have hB5 := hD.below
        have HB5 := Lib.hid (HB.out.trans (hB5.mono HB.out.size))
        have HX5 := Lib.hid ((hB5.block _ hbl).trans HX.out)
        replace e1 := (hB5.cell (p := ⟨b, _, none⟩) hbw).trans e1
        replace e2 := (hB5.cell (p := ⟨b, _, none⟩) hbw).trans e2
        replace g1 := (hB5.cell (p := ⟨w.heap.size, 1, none⟩) hbl).trans g1
        replace hbl := lt_heap HX5.out
        have hbw5 := Nat.lt_of_lt_of_le hbw hB5.size
        have CY := CH w5 HB5.out y
        clear hD hB5 g0 e0 CX CH
        cases hy : s.contains y
        · rw [hy] at CY HST
          clear hy
          have HTT := Lib.hid (show t' = t + u by rw [HST.out]; simp)
          have hsum := HTT.out
          go_wp2_with fail
          refine CY.out.mono ?_
          rintro e w6 ⟨rfl, hD⟩
          have hB6 := hD.below
          have HB6 := Lib.hid (HB5.out.trans (hB6.mono HB5.out.size))
          have HX6 := Lib.hid ((hB6.block _ hbl).trans HX5.out)
          replace e2 := (hB6.cell (p := ⟨b, _, none⟩) hbw5).trans e2
          replace g1 := (hB6.cell (p := ⟨w.heap.size, 1, none⟩) hbl).trans g1
          have hwr : IntKind.i64.wrap (t + u) = t' := by rw [← hsum]; exact IntWalk.i64_in _ (by omega)
          clear hD hB6 hsum
          go_wp2_with fail
          go_roundw
          case rel => exact ⟨k + 1, by omega, by rw [← HT'.out, HTT.out], by go_num, HB6, HX6⟩
          case measure => simp [intOf]; omega
        · rw [hy] at CY HST
          clear hy
          have HTT := Lib.hid (show t' = t by rw [HST.out]; simp)
          go_wp2_with fail
          refine CY.out.mono ?_
          rintro e w6 ⟨rfl, hD⟩
          have hB6 := hD.below
          have HB6 := Lib.hid (HB5.out.trans (hB6.mono HB5.out.size))
          have HX6 := Lib.hid ((hB6.block _ hbl).trans HX5.out)
          clear hD hB6 g1 e1 e2
          go_wp2_with fail
          go_roundw
          case rel => exact ⟨k + 1, by omega, by rw [← HT'.out, HTT.out], by go_num, HB6, HX6⟩
          case measure => simp [intOf]; omega
    · have hnl : ¬ (k : Int) < (n.arcs.length : Int) := by omega
      obtain rfl : k = n.arcs.length := by omega
      go_wp2_with fail
      go_ret2
      exact ⟨by rw [HZ.out]; rfl, HB.out⟩
end Go.Proofs.Ytikddknhcfhnbaa
