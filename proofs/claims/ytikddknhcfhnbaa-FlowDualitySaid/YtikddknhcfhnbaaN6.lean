/- The law FlowDuality. -/
import Derived.Test.YtikddknhcfhnbaaF8
import Derived.Test.YtikddknhcfhnbaaF6
namespace Go.Proofs.Ytikddknhcfhnbaa
open Go.RowKit Go.Deep
theorem PathsP.wle {n : NetD} {V : Nat} {f : List Int} {ps : List (List Int)} {am : List Int} {L : Nat → Nat → Int} {W : Nat → Int} (h : PathsP n V f ps am L W) : ∀ {k : Nat}, k ≤ ps.length → W k ≤ W 0
  | 0, _ => Int.le_refl _
  | k + 1, hk => by
    have h1 := PathsP.wle h (k := k) (by omega)
    have h2 := (h.step k (by omega)).lo
    rw [h.wS k (by omega)]; omega
set_option maxHeartbeats 4000000 in
set_option maxRecDepth 100000 in
theorem law6 (w : World) (M : Nat → Prop) (v : Value) (n : NetD) (h : IsNet w M v n) (M1 : Nat → Prop) (v1 : Value) (f : List Int) (h1 : IsInts w M1 v1 f) (M2 : Nat → Prop) (v2 : Value) (s : List Int) (h2 : IsInts w M2 v2 s) :
    Calls Try.prog 6 #[v, v1, v2] w fun e w' => e = .returned (.bool true) ∧ Below w.heap.size w w' := by
  have HG := Lib.hid h
  obtain ⟨va, rfl, hva⟩ := id h
  obtain ⟨A, c, rfl, -⟩ := id hva
  have HI1 := Lib.hid h1
  obtain ⟨A1, kc1, rfl, hlc1, -⟩ := id h1
  have HI2 := Lib.hid h2
  obtain ⟨A2, kc2, rfl, hlc2, -⟩ := id h2
  clear h hva h1 h2
  go_enter Try.func6, Try.ntmps6
  go_wp2_with fail
  refine nameW fun W1 hW1 => ?_
  have hB1 : Below w.heap.size w W1 := by rw [hW1.out]; exact (Below.refl w.heap.size w).alloc (Nat.le_refl _) _
  have hb1 : W1.heap[w.heap.size]? = some (.cells #[.int .i64 n.vs, .slice A n.arcs.length c] 24 (0, 0)) := by rw [hW1.out, heap_alloc_if, if_pos rfl]
  clear hW1
  refine (sane_any W1).mono ?_
  rintro e w2 ⟨rfl, hb⟩
  have hX2 := (hb.block _ (lt_heap hb1)).trans hb1
  have HX2 := Lib.hid hX2
  have HB2 := Lib.hid (hB1.trans (hb.mono hB1.size))
  have HG2 := Lib.hid (HG.out.below HB2.out)
  replace HI1 := Lib.hid (IsSl.below HI1.out HB2.out)
  replace HI2 := Lib.hid (IsSl.below HI2.out HB2.out)
  have hbl := lt_heap HX2.out
  have c0 : w2.cell? ⟨w.heap.size, 0, none⟩ = some (.int .i64 n.vs) := cell_of hX2 rfl
  have c1 : w2.cell? ⟨w.heap.size, 1, none⟩ = some (.slice A n.arcs.length c) := cell_of hX2 rfl
  clear hb hb1 hB1 hX2
  by_cases hv60 : (60 : Int) < n.vs
  · go_wp2_with fail
    go_ret
    exact ⟨rfl, HB2.out⟩
  by_cases ha300 : (300 : Int) < (n.arcs.length : Int)
  · go_wp2_with fail
    go_ret
    exact ⟨rfl, HB2.out⟩
  by_cases hf300 : (300 : Int) < (f.length : Int)
  · go_wp2_with fail
    go_ret
    exact ⟨rfl, HB2.out⟩
  by_cases hs60 : (60 : Int) < (s.length : Int)
  · go_wp2_with fail
    go_ret
    exact ⟨rfl, HB2.out⟩
  cases hch : chkN n
  · have hcz := chkF_no hch
    have CC := max_no w2 _ _ n HG2.out hch
    go_wp2_with fail
    refine CC.mono ?_
    rintro e w3 ⟨rfl, hb⟩
    have HB3 := Lib.hid (HB2.out.trans (hb.mono HB2.out.size))
    have hX3 := (hb.block _ hbl).trans HX2.out
    have HX3 := Lib.hid hX3
    have HG3 := Lib.hid (HG2.out.below hb)
    replace HI1 := Lib.hid (IsSl.below HI1.out hb)
    replace HI2 := Lib.hid (IsSl.below HI2.out hb)
    replace hbl := lt_heap HX3.out
    replace c0 : w3.cell? ⟨w.heap.size, 0, none⟩ = some (.int .i64 n.vs) := cell_of hX3 rfl
    replace c1 : w3.cell? ⟨w.heap.size, 1, none⟩ = some (.slice A n.arcs.length c) := cell_of hX3 rfl
    clear hb hX3 CC
    have CC := fcheck_any w3 _ _ n HG3.out
    rw [hcz] at CC
    go_wp2_with fail
    refine CC.mono ?_
    rintro e w4 ⟨rfl, hb⟩
    have HB4 := Lib.hid (HB3.out.trans (hb.mono HB3.out.size))
    have hX4 := (hb.block _ hbl).trans HX3.out
    have HX4 := Lib.hid hX4
    have HG4 := Lib.hid (HG3.out.below hb)
    replace HI1 := Lib.hid (IsSl.below HI1.out hb)
    replace HI2 := Lib.hid (IsSl.below HI2.out hb)
    replace hbl := lt_heap HX4.out
    replace c0 : w4.cell? ⟨w.heap.size, 0, none⟩ = some (.int .i64 n.vs) := cell_of hX4 rfl
    replace c1 : w4.cell? ⟨w.heap.size, 1, none⟩ = some (.slice A n.arcs.length c) := cell_of hX4 rfl
    clear hb hX4 CC
    clear hcz
    go_wp2_with fail
    go_ret
    exact ⟨rfl, HB4.out⟩
  have CC := max_yes w2 _ _ n HG2.out hch
  go_wp2_with fail
  refine CC.mono ?_
  rintro e w3 ⟨V, fl, val, sd, v1, v2, hn, rfl, hbest, hi1, hi2, hb⟩
  obtain ⟨Af, df, rfl⟩ := ints_sl hi1 rfl
  obtain ⟨As, ds, rfl⟩ := ints_sl hi2 rfl
  have HF := Lib.hid hi1
  have HS := Lib.hid hi2
  have HBE := Lib.hid hbest
  have HNO := Lib.hid hn
  have HCH := Lib.hid hch
  have hsl : sd.length ≤ 65536 := by have := (sideB_rise hbest.side).2.2.2.2; omega
  clear hi1 hi2 hbest hn hch
  have HB3 := Lib.hid (HB2.out.trans (hb.mono HB2.out.size))
  have hX3 := (hb.block _ hbl).trans HX2.out
  have HX3 := Lib.hid hX3
  have HG3 := Lib.hid (HG2.out.below hb)
  replace HI1 := Lib.hid (IsSl.below HI1.out hb)
  replace HI2 := Lib.hid (IsSl.below HI2.out hb)
  replace hbl := lt_heap HX3.out
  replace c0 : w3.cell? ⟨w.heap.size, 0, none⟩ = some (.int .i64 n.vs) := cell_of hX3 rfl
  replace c1 : w3.cell? ⟨w.heap.size, 1, none⟩ = some (.slice A n.arcs.length c) := cell_of hX3 rfl
  clear hb hX3 CC
  have CC := value_any w3 _ _ _ _ n fl HG3.out HF.out
  rw [HBE.out.vF] at CC
  go_wp2_with fail
  refine CC.mono ?_
  rintro e w4 ⟨rfl, hb⟩
  have HB4 := Lib.hid (HB3.out.trans (hb.mono HB3.out.size))
  have hX4 := (hb.block _ hbl).trans HX3.out
  have HX4 := Lib.hid hX4
  have HG4 := Lib.hid (HG3.out.below hb)
  replace HI1 := Lib.hid (IsSl.below HI1.out hb)
  replace HI2 := Lib.hid (IsSl.below HI2.out hb)
  replace HF := Lib.hid (IsSl.below HF.out hb)
  replace HS := Lib.hid (IsSl.below HS.out hb)
  replace hbl := lt_heap HX4.out
  replace c0 : w4.cell? ⟨w.heap.size, 0, none⟩ = some (.int .i64 n.vs) := cell_of hX4 rfl
  replace c1 : w4.cell? ⟨w.heap.size, 1, none⟩ = some (.slice A n.arcs.length c) := cell_of hX4 rfl
  clear hb hX4 CC
  have CC := cap_any w4 _ _ _ _ n sd HG4.out HS.out hsl
  rw [HBE.out.cF HNO.out HCH.out] at CC
  go_wp2_with fail
  refine CC.mono ?_
  rintro e w5 ⟨rfl, hb⟩
  have HB5 := Lib.hid (HB4.out.trans (hb.mono HB4.out.size))
  have hX5 := (hb.block _ hbl).trans HX4.out
  have HX5 := Lib.hid hX5
  have HG5 := Lib.hid (HG4.out.below hb)
  replace HI1 := Lib.hid (IsSl.below HI1.out hb)
  replace HI2 := Lib.hid (IsSl.below HI2.out hb)
  replace HF := Lib.hid (IsSl.below HF.out hb)
  replace HS := Lib.hid (IsSl.below HS.out hb)
  replace hbl := lt_heap HX5.out
  replace c0 : w5.cell? ⟨w.heap.size, 0, none⟩ = some (.int .i64 n.vs) := cell_of hX5 rfl
  replace c1 : w5.cell? ⟨w.heap.size, 1, none⟩ = some (.slice A n.arcs.length c) := cell_of hX5 rfl
  clear hb hX5 CC
  clear hsl
  obtain ⟨⟨a, b⟩, hab⟩ : ∃ x, x = valF n f := ⟨_, rfl⟩
  have hav : b = 0 → a ≤ val := fun e => by
    cases hvb : valB n f
    · rw [valF_no hvb] at hab; cases hab; cases e
    · have := HBE.out.flow_le HNO.out HCH.out hvb
      rw [← hab] at this; exact this
  have CC := value_any w5 _ _ _ _ n f HG5.out HI1.out
  rw [← hab] at CC
  go_wp2_with fail
  refine CC.mono ?_
  rintro e w6 ⟨rfl, hb⟩
  have HB6 := Lib.hid (HB5.out.trans (hb.mono HB5.out.size))
  have hX6 := (hb.block _ hbl).trans HX5.out
  have HX6 := Lib.hid hX6
  have HG6 := Lib.hid (HG5.out.below hb)
  replace HI1 := Lib.hid (IsSl.below HI1.out hb)
  replace HI2 := Lib.hid (IsSl.below HI2.out hb)
  replace HF := Lib.hid (IsSl.below HF.out hb)
  replace HS := Lib.hid (IsSl.below HS.out hb)
  replace hbl := lt_heap HX6.out
  replace c0 : w6.cell? ⟨w.heap.size, 0, none⟩ = some (.int .i64 n.vs) := cell_of hX6 rfl
  replace c1 : w6.cell? ⟨w.heap.size, 1, none⟩ = some (.slice A n.arcs.length c) := cell_of hX6 rfl
  clear hb hX6 CC
  clear hab
  go_upto_region 13 with fail
  go_cut [99] (fun q wx => q = .bool false ∧ w6 = wx)
  case first =>
    by_cases hb0 : b = 0
    · have hnv : ¬ val < a := by have := hav hb0; omega
      clear hav
      subst hb0
      go_wp2_with fail
      go_meet
      case rel => exact ⟨rfl, rfl⟩
    · have hbe : (b == 0) = false := by simpa using hb0
      clear hav
      go_wp2_with fail
      go_meet
      case rel => exact ⟨rfl, rfl⟩
  case rest =>
  obtain ⟨rfl, rfl⟩ := hcut
  clear hav
  obtain ⟨⟨d, g⟩, hdg⟩ : ∃ x, x = capF n s := ⟨_, rfl⟩
  have hgv : g = 0 → val ≤ d := fun e => by
    cases hvb : sideB n s
    · unfold capF at hdg; rw [if_pos HCH.out, hvb] at hdg; cases hdg; cases e
    · have := HBE.out.side_ge hvb
      rw [← hdg] at this; exact this
  have CC := cap_any w6 _ _ _ _ n s HG6.out HI2.out (by omega)
  rw [← hdg] at CC
  go_wp2_with fail
  refine CC.mono ?_
  rintro e w7 ⟨rfl, hb⟩
  have HB7 := Lib.hid (HB6.out.trans (hb.mono HB6.out.size))
  have hX7 := (hb.block _ hbl).trans HX6.out
  have HX7 := Lib.hid hX7
  have HG7 := Lib.hid (HG6.out.below hb)
  replace HI1 := Lib.hid (IsSl.below HI1.out hb)
  replace HI2 := Lib.hid (IsSl.below HI2.out hb)
  replace HF := Lib.hid (IsSl.below HF.out hb)
  replace HS := Lib.hid (IsSl.below HS.out hb)
  replace hbl := lt_heap HX7.out
  replace c0 : w7.cell? ⟨w.heap.size, 0, none⟩ = some (.int .i64 n.vs) := cell_of hX7 rfl
  replace c1 : w7.cell? ⟨w.heap.size, 1, none⟩ = some (.slice A n.arcs.length c) := cell_of hX7 rfl
  clear hb hX7 CC
  clear hdg
  go_upto_region 16 with fail
  go_cut [112] (fun q wx => q = .bool false ∧ w7 = wx)
  case first =>
    by_cases hb0 : g = 0
    · have hnv : ¬ d < val := by have := hgv hb0; omega
      clear hgv
      subst hb0
      go_wp2_with fail
      go_meet
      case rel => exact ⟨rfl, rfl⟩
    · have hbe : (g == 0) = false := by simpa using hb0
      clear hgv
      go_wp2_with fail
      go_meet
      case rel => exact ⟨rfl, rfl⟩
  case rest =>
  obtain ⟨rfl, rfl⟩ := hcut
  clear hgv
  have CC := paths_any w7 _ _ _ _ n fl HG7.out HF.out
  go_wp2_with fail
  refine CC.mono ?_
  rintro e w8 ⟨hb, hor⟩
  rcases hor with ⟨h1, -⟩ | ⟨V', ps, am, L, W, v1, v2, base, hn', -, rfl, hpp, hwz, hpl, -, hrw, ham⟩
  · have h2 := HBE.out.flow; rw [h2] at h1; cases h1
  obtain ⟨A5, d5, rfl⟩ := hrw.sl
  have hia := IsInts.ofOwn ham
  obtain ⟨A6, d6, rfl⟩ := own_sl ham
  have HAM := Lib.hid hia
  have HPP := Lib.hid hpp
  have hw0 : W 0 = val := by rw [← hpp.v0]; exact HBE.out.vEq
  have hml : am.length ≤ n.arcs.length := by rw [hpp.len]; exact hpl
  have HWZ := Lib.hid hwz
  have HW0 := Lib.hid hw0
  have hvtop := HBE.out.top
  clear hrw hia ham hpp hn' hwz hw0 hpl
  have HB8 := Lib.hid (HB7.out.trans (hb.mono HB7.out.size))
  have hX8 := (hb.block _ hbl).trans HX7.out
  have HX8 := Lib.hid hX8
  have HG8 := Lib.hid (HG7.out.below hb)
  replace HI1 := Lib.hid (IsSl.below HI1.out hb)
  replace HI2 := Lib.hid (IsSl.below HI2.out hb)
  replace HF := Lib.hid (IsSl.below HF.out hb)
  replace HS := Lib.hid (IsSl.below HS.out hb)
  replace hbl := lt_heap HX8.out
  replace c0 : w8.cell? ⟨w.heap.size, 0, none⟩ = some (.int .i64 n.vs) := cell_of hX8 rfl
  replace c1 : w8.cell? ⟨w.heap.size, 1, none⟩ = some (.slice A n.arcs.length c) := cell_of hX8 rfl
  clear hb hX8 CC
  go_wp2_with fail
  go_loopg [22, 122] am.length (fun gk q22 q122 wx => ∃ (k : Nat) (sm : Int), k ≤ am.length ∧ gk = am.length - k ∧ q22 = .int .i64 sm ∧ q122 = .int .i64 (k : Int) ∧ w8 = wx ∧ Hid (sm = val - W k))
  case atStart => exact ⟨0, 0, Nat.zero_le _, rfl, rfl, rfl, rfl, Lib.hid (by rw [HW0.out]; omega)⟩
  case round =>
    obtain ⟨k, sm, hk, hgk, rfl, rfl, rfl, HSM⟩ := hrel
    by_cases hkl : k < am.length
    · have hkI : (k : Int) < (am.length : Int) := by omega
      have hk0 : (0 : Int) ≤ (k : Int) := by omega
      obtain ⟨ba, oa, rfl, hba, hca⟩ := HAM.out.at_ (Below.refl _ _) hkl
      have hkp : k < ps.length := by rw [← HPP.out.len]; exact hkl
      have hst := HPP.out.step k hkp
      have hle := HPP.out.wle (Nat.le_of_lt hkp)
      have hpos := (HPP.out.left k (Nat.le_of_lt hkp)).pos
      have hws := HPP.out.wS k hkp
      have h1 := hst.lo
      have h2 := hst.hi
      rw [HW0.out] at hle
      obtain ⟨x, hx⟩ : ∃ x, x = nthI am k := ⟨_, rfl⟩
      rw [← hx] at hca hws h1 h2
      have HS2 : Hid (sm + x = val - W (k + 1)) := Lib.hid (by rw [HSM.out, hws]; omega)
      have hsm := HSM.out
      have hwr : IntKind.i64.wrap (sm + x) = sm + x := IntWalk.i64_in _ (by omega)
      have hx1 : ¬ x < 1 := by omega
      have hx2 : ¬ val < x := by omega
      clear hst hx hws hle hpos hsm h1 h2
      go_wp2_with fail
      go_roundg (am.length - (k + 1))
      case measure => omega
      case rel => exact ⟨k + 1, sm + x, by omega, rfl, rfl, by go_num, rfl, HS2⟩
    · have hnl : ¬ (k : Int) < (am.length : Int) := by omega
      have hsm : sm = val := by
        have h := HSM.out
        rw [show k = ps.length by rw [← HPP.out.len]; omega, HWZ.out] at h; omega
      subst hsm
      have hmI : (am.length : Int) ≤ (n.arcs.length : Int) := by omega
      go_wp2_with fail
      go_ret
      exact ⟨rfl, HB8.out⟩
end Go.Proofs.Ytikddknhcfhnbaa
