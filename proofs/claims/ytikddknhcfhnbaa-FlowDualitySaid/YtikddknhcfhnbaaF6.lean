/- Least of the reference. -/
import Derived.Test.YtikddknhcfhnbaaG2
import Derived.Test.YtikddknhcfhnbaaA6
import Derived.Test.YtikddknhcfhnbaaBit
namespace Go.Proofs.Ytikddknhcfhnbaa
open Go.RowKit Go.Deep
def LeastW (w : World) (n : NetD) (V : Nat) (e : Ending) (w' : World) : Prop :=
  ∃ v cl best, e = .returned (.tuple #[v, .int .i64 best]) ∧ IsInts w' (fun b => w.heap.size ≤ b) v cl ∧ LeastI n V (2 ^ (V - 2)) best cl ∧ Below w.heap.size w w'
theorem capM_le {n : NetD} {V : Nat} (hn : NOk n V) (hch : chkN n = true) (m : Nat) : 0 ≤ capM n V m ∧ capM n V m ≤ 4398046511104 := by
  unfold capM capF
  rw [if_pos hch, if_pos (sideL_side hn m)]
  have h := capTo_le hn (sideL m (V - 2)) (Nat.le_refl n.arcs.length)
  have := hn.len
  dsimp only
  omega
theorem capF_M {n : NetD} {V : Nat} (hn : NOk n V) (hch : chkN n = true) (m : Nat) : capF n (sideL m (V - 2)) = (capM n V m, 0) := by
  unfold capM capF
  rw [if_pos hch, if_pos (sideL_side hn m)]
/-- filter of the first k of a list -/
theorem filter_take {l : List Int} {p : Int → Bool} {k : Nat} (hk : k < l.length) : (l.take (k + 1)).filter p = if p (nthI l k) = true then (l.take k).filter p ++ [nthI l k] else (l.take k).filter p := by
  rw [take_snoc hk, List.filter_append]
  by_cases e : p (nthI l k) = true
  · rw [if_pos e]; simp [e]
  · rw [if_neg e]; simp [e]
theorem own_fresh {W : World} {g : Nat} (hg : W.heap[g]? = some (.cells #[] 3 (0, 0))) {base : Nat} (hb : base ≤ g) : W.ownsRow base 3 1 (.slice (some ⟨g, 0, none⟩) 0 0) ([] : List Int).length (([] : List Int).map i64v) := own_empty hg hb
theorem mask_bit {m j : Nat} (hm : m < 4294967296) : bits .and .i64 ((m / 2 ^ j : Nat) : Int) 1 = if m.testBit j = true then 1 else 0 := by
  have h1 := bits_and_i64_nat (m / 2 ^ j) 1 (by have := Nat.div_le_self m (2 ^ j); omega) (by decide)
  rw [show ((1 : Nat) : Int) = 1 from rfl] at h1
  rw [h1, Nat.and_one_is_mod, Nat.testBit_eq_decide_div_mod_eq]
  by_cases e : m / 2 ^ j % 2 = 1
  · rw [decide_eq_true e, if_pos rfl, e]; rfl
  · rw [decide_eq_false e, if_neg (by decide), show m / 2 ^ j % 2 = 0 by omega]; rfl
set_option maxRecDepth 20000 in
set_option maxHeartbeats 4000000 in
theorem least_any (w : World) (M : Nat → Prop) (v : Value) (n : NetD) (V : Nat) (h : IsNet w M v n) (hn : NOk n V) (hch : chkN n = true) (hV9 : V ≤ 9) : Calls Try.prog 19 #[v] w (LeastW w n V) := by
  have CC := fun (W : World) (Ms : Nat → Prop) (vs : Value) (s : List Int) (hb : Below w.heap.size w W) (hs : IsInts W Ms vs s) => rcap_any W M Ms v vs n s (h.below hb) hs
  obtain ⟨va, rfl, hva⟩ := id h
  obtain ⟨A, c, rfl, -⟩ := id hva
  have hVs := hn.vs
  rw [hVs] at CC ⊢
  obtain ⟨r, hr⟩ : ∃ r, r = V - 2 := ⟨_, rfl⟩
  obtain ⟨F, hF⟩ : ∃ F, F = 2 ^ r := ⟨_, rfl⟩
  have hr7 : r ≤ 7 := by omega
  have hF128 : F ≤ 128 := by rw [hF]; exact Nat.le_trans (Nat.pow_le_pow_right (by omega) hr7) (by decide)
  have hwr : IntKind.i64.wrap ((V : Int) - 2) = (r : Int) := by rw [IntWalk.i64_in _ (by omega)]; have := hn.lo; omega
  have hshl : ∀ yk, Op.shift .shl .i64 1 yk (r : Int) = pure (.int .i64 (F : Int)) := fun yk => by
    rw [shift_shl_i64 yk 1 (r : Int) (by omega) (by omega), Int.toNat_natCast, Int.one_mul, hF]
    rw [show (2 : Int) ^ r = ((2 ^ r : Nat) : Int) by simp, ← hF, IntWalk.i64_in _ (by omega)]
  have HR := Lib.hid hr
  have HF := Lib.hid hF
  have HR7 := Lib.hid hr7
  have HN := Lib.hid hn
  have HCH := Lib.hid hch
  have HCC := Lib.hid CC
  have HL0 := Lib.hid (LeastI.start n V)
  clear hr hF hr7 hV9 hn hch CC h hva hVs
  go_enter Try.func19, Try.ntmps19
  go_wp2_with fail
  refine nameC fun W1 hW1 => ?_
  have hb1 : Below w.heap.size w W1 := by rw [hW1.out]; exact ((Below.refl _ _).alloc (Nat.le_refl _) _).alloc (by simp) _
  have HB1 := Lib.hid hb1
  have HK1 : Hid (W1.heap[w.heap.size]? = some (.cells #[.int .i64 (V : Int), .slice A n.arcs.length c] 24 (0, 0))) := Lib.hid (by rw [hW1.out]; exact heap_alloc_keep (by rw [heap_alloc_if, if_pos rfl]) _)
  have HO1 : Hid (IsInts W1 (fun b => w.heap.size ≤ b) (.slice (some ⟨w.heap.size + 1, 0, none⟩) 0 0) []) := Lib.hid ⟨_, _, rfl, by simp, by simp, fun h => absurd h (by simp)⟩
  clear hW1 hb1
  go_loopg [4, 5, 7] F (fun gk q4 q5 q7 wr => ∃ (m : Nat) (best : Int) (cl : List Int), m ≤ F ∧ gk = F - m ∧ q4 = .int .i64 best ∧ q7 = .int .i64 (m : Int) ∧ Hid (IsInts wr (fun b => w.heap.size ≤ b) q5 cl) ∧ Hid (LeastI n V m best cl) ∧ Hid (Below w.heap.size w wr) ∧ Hid (wr.heap[w.heap.size]? = some (.cells #[.int .i64 (V : Int), .slice A n.arcs.length c] 24 (0, 0))) ∧ best ≤ 4398046511104)
  case atStart => exact ⟨0, -1, [], Nat.zero_le _, rfl, rfl, rfl, HO1, HL0, HB1, HK1, by omega⟩
  case round =>
    obtain ⟨m, best, cl, hm, hgk, rfl, rfl, HO, HL, HB, HK, hbest⟩ := hrel
    clear HO1 HL0 HB1 HK1
    by_cases hmF : m < F
    · have hmI : (m : Int) < (F : Int) := by omega
      have hcl : cl.length ≤ 9 := by have := HL.out.len; have := HR.out; have := HR7.out; omega
      obtain ⟨B0, hB0⟩ : ∃ b, b = wr.heap.size := ⟨_, rfl⟩
      have hkw := lt_heap HK.out
      go_upto_region 8 with fail
      refine nameC fun W2 hW2 => ?_
      have HX2 : Hid (Below wr.heap.size wr W2) := Lib.hid (by rw [hW2.out]; exact (Below.refl _ _).alloc (Nat.le_refl _) _)
      have HY2 : Hid (W2.ownsRow B0 3 1 (.slice (some ⟨B0, 0, none⟩) 1 1) (sideL m 0).length ((sideL m 0).map i64v)) := Lib.hid ⟨rfl, .inr ⟨B0, 1, #[.int .i64 0], rfl, Nat.le_refl _, by rw [hW2.out, hB0, heap_alloc_if]; simp, Nat.le_refl _, by unfold maxLen; omega, rfl, rfl⟩⟩
      rw [← hB0] at HX2 hkw ⊢
      have hz2 : B0 ≤ W2.heap.size := by rw [hB0]; exact (hB0 ▸ HX2.out.size)
      have HB0 := Lib.hid hB0
      have hwB0 : w.heap.size ≤ B0 := by rw [hB0]; exact HB.out.size
      clear hW2 hB0
      obtain ⟨wo, rfl⟩ : ∃ W, W = wr := ⟨_, rfl⟩
      go_wp2_with fail
      go_loopg [8, 9] r (fun gj q8 q9 wx => ∃ j : Nat, j ≤ r ∧ gj = r - j ∧ q9 = .int .i64 (j : Int) ∧ Hid (wx.ownsRow B0 3 1 q8 (sideL m j).length ((sideL m j).map i64v)) ∧ Hid (Below B0 wo wx) ∧ B0 ≤ wx.heap.size)
      case atStart => exact ⟨0, Nat.zero_le _, rfl, rfl, HY2, HX2, hz2⟩
      case round =>
        obtain ⟨w3, rfl⟩ : ∃ W, W = wr := ⟨_, rfl⟩
        obtain ⟨j, hj, hgj, rfl, HS, HX, hz⟩ := hrel
        clear HX2 HY2 hz2
        have hown := HS.out
        obtain ⟨As, cs, rfl⟩ := own_sl hown
        by_cases hjr : j < r
        · have hjI : (j : Int) < (r : Int) := by omega
          obtain ⟨Q, hQ⟩ : ∃ Q, Q = m / 2 ^ j := ⟨_, rfl⟩
          have hQm : (Q : Int) < 4294967296 := by
            have : Q ≤ m := by rw [hQ]; exact Nat.div_le_self _ _
            omega
          have hr7 := HR7.out
          have hshr : ∀ yk, Op.shift .shr .i64 (m : Int) yk (j : Int) = pure (.int .i64 (Q : Int)) := fun yk => by
            rw [shift_shr_i64 yk (m : Int) (j : Int) (by omega) (by omega), Int.toNat_natCast, hQ]
            congr 2
          have hwj : IntKind.i64.wrap ((j : Int) + 1) = ((j + 1 : Nat) : Int) := IntWalk.i64_in _ (by omega)
          have hand := mask_bit (m := m) (j := j) (by omega)
          rw [← hQ] at hand
          have hsl : (sideL m j).length < 100000 := by have := (sideL_len m j).2; omega
          clear hQ hown hr7
          cases hbt : m.testBit j
          · rw [hbt] at hand
            have hand0 : bits .and .i64 (Q : Int) 1 = 0 := hand
            have HSN : Hid (sideL m (j + 1) = sideL m j) := Lib.hid (by show sideL m j ++ _ = _; rw [hbt]; simp)
            clear hand hbt
            go_wp2_with fail
            go_roundg (r - (j + 1))
            case measure => omega
            case rel => exact ⟨j + 1, by omega, rfl, by go_num, by rw [HSN.out]; exact HS, HX, hz⟩
          · rw [hbt] at hand
            have hand1 : bits .and .i64 (Q : Int) 1 = 1 := hand
            have HSN : Hid (sideL m (j + 1) = sideL m j ++ [((j + 1 : Nat) : Int)]) := Lib.hid (by show sideL m j ++ _ = _; rw [hbt]; simp)
            clear hand hbt
            go_wp2_with (refine wpList_int2 rfl (.tmp 35) (.tmp 38) rfl B0 (sideL m j) ((j + 1 : Nat) : Int) rfl (own_below HS.out ((Below.refl _ _).alloc (Nat.le_refl _) _)) rfl (cell_new1 _ _ _) hsl (Nat.le_trans hz (by simp)) ?_; intro A7 d7 w7 H7)
            have HX7 : Hid (Below B0 wo w7) := Lib.hid (HX.out.trans (((Below.refl _ _).alloc hz (.cells #[.int .i64 ((j + 1 : Nat) : Int)] 3)).trans H7.out.2.1))
            have HS7 : Hid (w7.ownsRow B0 3 1 (.slice A7 ((sideL m j).length + 1) d7) (sideL m (j + 1)).length ((sideL m (j + 1)).map i64v)) := Lib.hid (by
              have h := H7.out.1
              have e : (sideL m j ++ [((j + 1 : Nat) : Int)]).length = (sideL m j).length + 1 := by simp
              rw [HSN.out, ← e]; exact h)
            have hz7 : B0 ≤ w7.heap.size := Nat.le_trans hz (Nat.le_trans (by simp) H7.out.2.1.size)
            go_roundg (r - (j + 1))
            case measure => omega
            case rel => exact ⟨j + 1, by omega, rfl, by go_num, HS7, HX7, hz7⟩
        · have hnl : ¬ (j : Int) < (r : Int) := by omega
          obtain rfl : j = r := by omega
          have HBw : Hid (Below w.heap.size w w3) := Lib.hid (HB.out.trans (HX.out.mono (by rw [HB0.out]; exact HB.out.size)))
          have hbx : Below wo.heap.size wo w3 := HX.out.mono (by rw [HB0.out]; exact Nat.le_refl _)
          have HKw := Lib.hid ((hbx.block _ (by rw [← HB0.out]; exact hkw)).trans HK.out)
          have HOw : Hid (IsInts w3 (fun b => w.heap.size ≤ b) u5 cl) := Lib.hid (IsSl.below HO.out hbx)
          have CX := HCC.out w3 _ _ (sideL m j) HBw.out (IsInts.ofOwn HS.out)
          rw [HR.out, capF_M HN.out HCH.out m, ← HR.out] at CX
          have hcm := capM_le HN.out HCH.out m
          obtain ⟨cm, hcme⟩ : ∃ x, x = capM n V m := ⟨_, rfl⟩
          rw [← hcme] at CX hcm
          have HCM := Lib.hid hcme
          have HSD : Hid (sideL m j = sideL m (V - 2)) := Lib.hid (by rw [HR.out])
          have h0w : w3.cell? ⟨w.heap.size, 0, none⟩ = some (.int .i64 (V : Int)) := cell_of HKw.out rfl
          have h1w : w3.cell? ⟨w.heap.size, 1, none⟩ = some (.slice A n.arcs.length c) := cell_of HKw.out rfl
          have hkw3 := lt_heap HKw.out
          clear hown hbx hcme HO HB HK HX HB0 hkw hgj hj
          go_wp2_with fail
          refine CX.mono ?_
          rintro e w5 ⟨rfl, hb5⟩
          have HB5 := Lib.hid (HBw.out.trans (hb5.mono HBw.out.size))
          have HK5 := Lib.hid ((hb5.block _ hkw3).trans HKw.out)
          have HO5 : Hid (IsInts w5 (fun b => w.heap.size ≤ b) u5 cl) := Lib.hid (IsSl.below HOw.out hb5)
          have HS5 := Lib.hid (own_below HS.out hb5)
          have hw5 : w.heap.size ≤ w5.heap.size := HB5.out.size
          have HSI : Hid (IsInts w5 (fun b => w.heap.size ≤ b) (.slice As (sideL m j).length cs) (sideL m j)) := Lib.hid ((IsInts.ofOwn HS5.out).mono (fun b _ h => Nat.le_trans hwB0 h) (by decide))
          clear hb5 CX h0w h1w hkw3 HBw HKw HOw HS hz
          have hbb0 : 0 < m → 0 ≤ best := fun h => HL.out.nonneg h
          by_cases hneg : best < 0
          · have HLN := Lib.hid (HL.out.less HN.out (by rw [← HCM.out]; exact hcm.1) (.inl hneg))
            rw [← HCM.out, ← HSD.out] at HLN
            clear hbb0
            go_wp2_with fail
            go_roundg (F - (m + 1))
            case measure => omega
            case rel => exact ⟨m + 1, cm, _, by omega, rfl, rfl, by go_num, HSI, HLN, HB5, HK5, hcm.2⟩
          · have hb0 : 0 ≤ best := by omega
            rcases Int.lt_trichotomy cm best with hlt | heq | hgt
            · have HLN := Lib.hid (HL.out.less HN.out (by rw [← HCM.out]; exact hcm.1) (.inr (by rw [← HCM.out]; exact hlt)))
              rw [← HCM.out, ← HSD.out] at HLN
              clear hbb0
              go_wp2_with fail
              go_roundg (F - (m + 1))
              case measure => omega
              case rel => exact ⟨m + 1, cm, _, by omega, rfl, rfl, by go_num, HSI, HLN, HB5, HK5, hcm.2⟩
            · have HLN := Lib.hid (HL.out.both hb0 (by rw [← HCM.out]; exact heq))
              rw [← HSD.out] at HLN
              subst heq
              clear hbb0 hneg
              obtain ⟨A9, c9, rfl, -⟩ := id HO5.out
              have hsl : (sideL m j).length < 100000 := by have := (sideL_len m j).2; have := HR7.out; omega
              go_upto_region 19 with fail
              refine nameC fun W6 hW6 => ?_
              have HX6 : Hid (Below w5.heap.size w5 W6) := Lib.hid (by rw [hW6.out]; exact (Below.refl _ _).alloc (Nat.le_refl _) _)
              have HY6 : Hid (W6.ownsRow w5.heap.size 3 1 (.slice (some ⟨w5.heap.size, 0, none⟩) 0 0) ((cl.take 0).filter fun x => (sideL m j).contains x).length (((cl.take 0).filter fun x => (sideL m j).contains x).map i64v)) := Lib.hid (own_fresh (by rw [hW6.out, heap_alloc_if, if_pos rfl]) (Nat.le_refl _))
              clear hW6
              go_wp2_with fail
              go_loopg [12, 13] cl.length (fun gj q12 q13 wx => ∃ i : Nat, i ≤ cl.length ∧ gj = cl.length - i ∧ q13 = .int .i64 (i : Int) ∧ Hid (wx.ownsRow w5.heap.size 3 1 q12 ((cl.take i).filter fun x => (sideL m j).contains x).length (((cl.take i).filter fun x => (sideL m j).contains x).map i64v)) ∧ Hid (Below w5.heap.size w5 wx))
              case atStart => exact ⟨0, Nat.zero_le _, rfl, rfl, HY6, HX6⟩
              case round =>
                obtain ⟨i, hi, hgi, rfl, HS6, HX⟩ := hrel
                clear HY6 HX6
                have hown := HS6.out
                obtain ⟨l, hl⟩ : ∃ l, l = (cl.take i).filter fun x => (sideL m j).contains x := ⟨_, rfl⟩
                rw [← hl] at hown
                obtain ⟨Al, dl, rfl⟩ := own_sl hown
                have HOW := Lib.hid hown
                have HLE := Lib.hid hl
                have hll : l.length < 100000 := by rw [hl]; have := List.length_filter_le (fun x => (sideL m j).contains x) (cl.take i); have := List.length_take_le i cl; omega
                clear hown hl HS6
                by_cases hil : i < cl.length
                · have hiI : (i : Int) < (cl.length : Int) := by omega
                  have hi0 : (0 : Int) ≤ (i : Int) := by omega
                  obtain ⟨ba, oa, rfl, hba, hca⟩ := HO5.out.at_ HX.out hil
                  have hFT := filter_take (l := cl) (p := fun x => (sideL m j).contains x) hil
                  obtain ⟨x, hx⟩ : ∃ x, x = nthI cl i := ⟨_, rfl⟩
                  rw [← hx] at hca hFT
                  rw [← HLE.out] at hFT
                  have CH := has_any wr _ _ (sideL m j) (IsSl.below HSI.out HX.out) x
                  have hbaw : ba < wr.heap.size := Nat.lt_of_lt_of_le hba HX.out.size
                  clear hx
                  cases hct : (sideL m j).contains x
                  · rw [hct] at CH
                    have HFT : Hid ((cl.take (i + 1)).filter (fun x => (sideL m j).contains x) = l) := Lib.hid (by rw [hFT, if_neg (by rw [hct]; decide)])
                    clear hFT hct
                    go_wp2_with fail
                    refine CH.mono ?_
                    rintro e w7 ⟨rfl, hD⟩
                    have hb7 := hD.below
                    have HX7 : Hid (Below w5.heap.size w5 w7) := Lib.hid (HX.out.trans (hb7.mono HX.out.size))
                    have HO7 := Lib.hid (own_below HOW.out hb7)
                    clear hD hb7 CH
                    go_wp2_with fail
                    go_roundg (cl.length - (i + 1))
                    case measure => omega
                    case rel => exact ⟨i + 1, by omega, rfl, by go_num, by rw [HFT.out]; exact HO7, HX7⟩
                  · rw [hct] at CH
                    have HFT : Hid ((cl.take (i + 1)).filter (fun x => (sideL m j).contains x) = l ++ [x]) := Lib.hid (by rw [hFT, if_pos hct])
                    clear hFT hct
                    go_wp2_with fail
                    refine CH.mono ?_
                    rintro e w7 ⟨rfl, hD⟩
                    have hb7 := hD.below
                    have HX7 : Hid (Below w5.heap.size w5 w7) := Lib.hid (HX.out.trans (hb7.mono HX.out.size))
                    have HO7 := Lib.hid (own_below HOW.out hb7)
                    replace hca := (hb7.cell (p := ⟨ba, _, none⟩) hbaw).trans hca
                    have hz7 : w5.heap.size ≤ w7.heap.size := HX7.out.size
                    clear hD hb7 CH
                    go_wp2_with (refine wpList_int2 rfl (.tmp 71) (.tmp 76) rfl w5.heap.size l x rfl (own_below HO7.out ((Below.refl _ _).alloc (Nat.le_refl _) _)) rfl (cell_new1 _ _ _) hll (Nat.le_trans hz7 (by simp)) ?_; intro A8 d8 w8 H8)
                    have HX8 : Hid (Below w5.heap.size w5 w8) := Lib.hid (HX7.out.trans (((Below.refl _ _).alloc hz7 (.cells #[.int .i64 x] 3)).trans H8.out.2.1))
                    have e5 : (l ++ [x]).length = l.length + 1 := by simp
                    have HS8 : Hid (w8.ownsRow w5.heap.size 3 1 (.slice A8 (l.length + 1) d8) (l ++ [x]).length ((l ++ [x]).map i64v)) := Lib.hid (by rw [← e5]; exact H8.out.1)
                    clear e5
                    go_roundg (cl.length - (i + 1))
                    case measure => omega
                    case rel => exact ⟨i + 1, by omega, rfl, by go_num, by rw [HFT.out]; exact HS8, HX8⟩
                · have hnl2 : ¬ (i : Int) < (cl.length : Int) := by omega
                  have HLL : Hid (l = cl.filter fun x => (sideL m j).contains x) := Lib.hid (by rw [HLE.out, List.take_of_length_le (by omega)])
                  have HLN2 := HLN
                  rw [← HLL.out] at HLN2
                  have HOl : Hid (IsInts wr (fun b => w.heap.size ≤ b) (.slice Al l.length dl) l) := Lib.hid ((IsInts.ofOwn HOW.out).mono (fun b _ h => Nat.le_trans hw5 h) (by decide))
                  have HB9 := Lib.hid (HB5.out.trans (HX.out.mono HB5.out.size))
                  have HK9 := Lib.hid ((HX.out.block _ (lt_heap HK5.out)).trans HK5.out)
                  clear HLN
                  go_wp2_with fail
                  go_roundg (F - (m + 1))
                  case measure => omega
                  case rel => exact ⟨m + 1, cm, l, by omega, rfl, rfl, by go_num, HOl, HLN2, HB9, HK9, hbest⟩
            · have HLN := Lib.hid (HL.out.more hb0 (by rw [← HCM.out]; exact hgt))
              have hng : ¬ cm < best := by omega
              clear hbb0
              go_wp2_with fail
              go_roundg (F - (m + 1))
              case measure => omega
              case rel => exact ⟨m + 1, best, cl, by omega, rfl, rfl, by go_num, HO5, HLN, HB5, HK5, hbest⟩
    · have hnl : ¬ (m : Int) < (F : Int) := by omega
      obtain rfl : m = F := by omega
      go_wp2_with fail
      go_ret2
      refine ⟨_, cl, best, rfl, HO.out, ?_, HB.out⟩
      rw [← HR.out, ← HF.out]; exact HL.out
end Go.Proofs.Ytikddknhcfhnbaa
