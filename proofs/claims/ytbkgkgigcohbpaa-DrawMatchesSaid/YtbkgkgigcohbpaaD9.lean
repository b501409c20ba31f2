import Derived.Test.YtbkgkgigcohbpaaD8
import Derived.Test.YtbkgkgigcohbpaaM5
import Derived.Test.YtbkgkgigcohbpaaTab
namespace Go.Proofs.Ytbkgkgigcohbpaa
open Go.RowKit
/-- the chances of a draw -/
def chanL (d : DrawD) : List (List Nat) := (List.range (nD d)).map fun r => (List.range (nD d)).map fun c => Tn0 (mayD d) (nD d) r c
def chancesD (d : DrawD) : List (List Nat) × Int := if checkB d then (chanL d, 0) else ([], 260)
/-- a table and a code -/
def TabE (w : World) (r : List (List Nat) × Int) (e : Ending) (w' : World) : Prop := ∃ v, e = .returned (.tuple #[v, .int .i64 r.2]) ∧ IsTab w' (fun b => w.heap.size ≤ b) v r.1 ∧ Below w.heap.size w w'
theorem Try.info_row : (Try.prog.info? 37).map (fun i => (i.zero, i.size, i.bytes)) = some (some (.slice none 0 0), 1, 24) := by kernel_rfl
theorem chancesD_bad {d : DrawD} (h : checkB d = false) : chancesD d = ([], 260) := by unfold chancesD; rw [h]; rfl
theorem chancesD_yes {d : DrawD} (h : checkB d = true) : chancesD d = (chanL d, 0) := by unfold chancesD; rw [h]; rfl
theorem TabW.isTab {w : World} {base n : Nat} {v : Value} {B : Nat → Nat} {T : Nat → Nat → Nat} (h : TabW w base 37 28 v n n B T) (hn : n ≤ 16) (f : Nat → Nat → Nat) (hf : ∀ r c, r < n → T r c = f r c) :
    IsTab w (fun b => base ≤ b) v ((List.range n).map fun r => (List.range n).map fun c => f r c) := by
  refine ⟨fun r => rowV B n r, ?_, fun r hr => ?_⟩
  · have ho := h.own
    have := IsSl.ofOwn (M := fun b => base ≤ b) (h := ho) fun _ hb => hb
    rw [List.length_map, List.length_range]
    refine this.congr fun i j hi hj => ?_
    obtain rfl : j = 0 := by omega
    unfold rowsV
    rw [Nat.mul_one, Nat.add_zero, List.getD_eq_getElem?_getD, List.getElem?_map, List.getElem?_range hi]
    rfl
  · rw [List.length_map, List.length_range] at hr
    have := TabW.isNs (M := fun b => base ≤ b) (h.row r hr) (by omega) (h.ge r hr)
    have e : ((List.range n).map fun r => (List.range n).map fun c => f r c).getD r [] = (List.range n).map (T r) := by
      rw [List.getD_eq_getElem?_getD, List.getElem?_map, List.getElem?_range hr]
      exact List.map_congr_left fun c _ => (hf r c hr).symm
    rw [e]
    exact this
theorem make_n (n : Nat) (h : n ≤ 65536) : ∃ mk : World → World, (∀ w, (Instr.makeSlice 37 (.int .i64 (n : Int)) (.int .i64 (n : Int))).run Try.prog w = .ok (.slice (some ⟨w.heap.size, 0, none⟩) n n) (mk w)) ∧ (∀ w : World, mk w = w.alloc (.cells (madeCells #[.int .u64 0] n) 28)) :=
  ⟨_, fun w => make_u64 n h w, fun _ => rfl⟩
set_option maxHeartbeats 4000000 in
set_option maxRecDepth 8000 in
theorem chances_any (w : World) (M : Nat → Prop) (v : Value) (d : DrawD) (h : IsDraw w M v d) :
    Calls Try.prog 13 #[v] w (TabE w (chancesD d)) := by
  have CK := fun W (hB : Below w.heap.size w W) => Lib.hid (check_any W M v d (h.below hB))
  have HD := Lib.hid h
  obtain ⟨v1, v2, v3, rfl, -, -, -⟩ := h
  cases hc : checkB d
  · have HC := Lib.hid (chancesD_bad hc)
    rw [checkD_no hc] at CK
    go_enter Try.func13, Try.ntmps13
    go_wp2_with fail
    refine nameW fun W1 hW1 => ?_
    have hB1 : Below w.heap.size w W1 := by rw [hW1.out]; exact (Below.refl w.heap.size w).alloc (Nat.le_refl _) _
    refine (CK W1 hB1).out.mono ?_
    rintro e W2 ⟨rfl, hB2⟩
    clear hW1
    have HB := Lib.hid (hB1.trans (hB2.mono hB1.size))
    clear hB1 hB2
    go_wp2_with fail
    go_ret2
    exact ⟨.slice none 0 0, by rw [HC.out]; rfl, by rw [HC.out]; exact IsTab.nil, HB.out⟩
  · have hlen := checkB_len hc
    have HL := Lib.hid hlen
    rw [checkD_yes hc] at CK
    have CP := fun W (hB : Below w.heap.size w W) => Lib.hid (prepare_any W M _ d (HD.out.below hB) hc)
    have HC := Lib.hid (chancesD_yes hc)
    clear hc hlen
    go_enter Try.func13, Try.ntmps13
    go_wp2_with fail
    refine nameW fun W1 hW1 => ?_
    have hB1 : Below w.heap.size w W1 := by rw [hW1.out]; exact (Below.refl w.heap.size w).alloc (Nat.le_refl _) _
    have hb1 : W1.heap[w.heap.size]? = some (.cells #[v1, v2, v3] 25 (0, 0)) := by rw [hW1.out, heap_alloc_if, if_pos rfl]
    refine (CK W1 hB1).out.mono ?_
    rintro e W2 ⟨rfl, hB2⟩
    have hb2 := (hB2.block w.heap.size (lt_heap hb1)).trans hb1
    have HB := Lib.hid (hB1.trans (hB2.mono hB1.size))
    have hx0 := cell_of (j := 0) hb2 rfl
    have hx1 := cell_of (j := 1) hb2 rfl
    have hx2 := cell_of (j := 2) hb2 rfl
    clear hB1 hB2 hW1 hb1 hb2
    go_wp2_with fail
    refine (CP W2 HB.out).out.mono ?_
    clear CP CK
    rintro e W3 ⟨g, rfl, ⟨br, bn, bd, hne, hcn, hmw⟩, hg, hB3⟩
    have HB3 := Lib.hid (HB.out.trans (hB3.mono HB.out.size))
    obtain ⟨n, hn⟩ : ∃ n, n = nD d := ⟨_, rfl⟩
    change CntW W3 g br (nD d) (2 ^ nD d) bn bd (Rn (mayD d) (nD d)) at hcn
    have hp0 : 0 < 2 ^ nD d := Nat.two_pow_pos _
    have hp16 : 2 ^ nD d ≤ 2 ^ 16 := Nat.pow_le_pow_right (by omega) HL.out.2.1
    rw [← hn] at hcn hp0 hp16
    have HN := Lib.hid hn
    obtain ⟨S, hS⟩ : ∃ S, S = 2 ^ n := ⟨_, rfl⟩
    rw [← hS] at hcn hp0 hp16
    have HS := Lib.hid hS
    have HCT := Lib.hid (show CntW W3 g br n S bn bd (Rn (mayD d) n) ∧ MayW W3 M bn bd d from ⟨hcn, hmw⟩)
    have hcb := hcn.1
    have hc0 : W3.cell? ⟨g, 0, none⟩ = some (.int .i64 (n : Int)) := cell_of (j := 0) hcb rfl
    have hn16 : n ≤ 16 := HN.out ▸ HL.out.2.1
    clear hcb hcn hmw hx0 hx1 hx2 hB3 hn hS
    obtain ⟨ir, hir, hz0, hz1, hz2⟩ := info_parts Try.info_row
    have HIR := Lib.hid (And.intro hir (And.intro hz0 (And.intro hz1 hz2)))
    clear hir hz0 hz1 hz2
    go_wp2_with fail
    go_loopw [2, 22] (fun q2 q22 wr => ∃ (k : Nat) (B : Nat → Nat), k ≤ n ∧ q22 = .int .i64 (k : Int) ∧ Hid (TabW wr W3.heap.size 37 28 q2 k n B (fun _ _ => 0)) ∧ Hid (Below W3.heap.size W3 wr)) (fun _ q _ => n - (intOf q).toNat)
    case atStart => exact ⟨0, fun _ => 0, Nat.zero_le _, rfl, Lib.hid (TabW.nil _ _ _ _ _ _ _), Lib.hid (Below.refl _ _)⟩
    case round =>
      obtain ⟨k, B, hk, rfl, HT, HBW⟩ := hrel
      have hcc := (HCT.out.1.below HBW.out).1
      have hc0 : wr.cell? ⟨g, 0, none⟩ = some (.int .i64 (n : Int)) := cell_of (j := 0) hcc rfl
      have hc2 : wr.cell? ⟨g, 2, none⟩ = some (.slice (some ⟨br, 0, none⟩) S S) := cell_of (j := 2) hcc rfl
      clear hcc
      by_cases hkn : k < n
      · have hkk : (k : Int) < (n : Int) := by omega
        obtain ⟨mk, hmk, hmk2⟩ := make_n n (by omega)
        have HM2 := Lib.hid hmk2
        have hbm : Below wr.heap.size wr (mk wr) := by rw [hmk2]; exact (Below.refl _ _).alloc (Nat.le_refl _) _
        have hszm : (mk wr).heap.size = wr.heap.size + 1 := by rw [hmk2, World.size_alloc]
        have HOW := Lib.hid (HT.out.below hbm).own
        have HBM := Lib.hid hbm
        have hszw := HBW.out.size
        have HSZ := Lib.hid hszm
        clear hmk2 hc2 hbm hszm
        go_wp2_with (at_builtin; refine wpList_append_cells _ rfl _ _ 32 rfl W3.heap.size 37 ir (.slice none 0 0) 1 24 Try.underlying32 HIR.out.1 HIR.out.2.1 HIR.out.2.2.1 HIR.out.2.2.2 rfl (by decide) _ k _ rfl (HOW.out.alloc _) (some ⟨(mk wr).heap.size, 0, none⟩) 1 1 [.slice (some ⟨wr.heap.size, 0, none⟩) n n] rfl rfl (fun _ => ⟨_, rfl, cell_one_new _ _ _⟩) (by intro u hu; simp at hu; subst hu; rfl) (by unfold maxLen; omega) (by omega) (by have := HSZ.out; simp; omega) ?_)
        intro v7 w7 hown7 hgrow7 _
        have hTW := HT.out.push (T' := fun _ _ => 0) (by decide) (Nat.le_refl _) hgrow7 (HBM.out.alloc (by have := HSZ.out; omega) _) (by
          have := World.rowIs_made wr (.int .u64 0) n 28
          rw [← HM2.out] at this
          exact this.alloc _) hown7 hszw (fun _ _ _ => rfl)
        have HTW := Lib.hid hTW
        have HB7 := Lib.hid ((HBW.out.trans ((HBM.out.alloc (by have := HSZ.out; omega) (.cells #[.slice (some ⟨wr.heap.size, 0, none⟩) n n] 37)).mono hszw)).grown hgrow7 (by have := HSZ.out; simp; omega) (own_base HOW.out))
        clear hTW hown7 hgrow7
        go_wp2_with fail
        go_roundw
        case rel => exact ⟨k + 1, _, by omega, by go_num, HTW, HB7⟩
        case measure => simp [intOf]; omega
      · have hkk : ¬ (k : Int) < (n : Int) := by omega
        obtain rfl : n = k := by omega
        obtain ⟨mk, hmk, hmk2⟩ := make_n S (by omega)
        obtain ⟨bw, hbw⟩ : ∃ bw, bw = wr.heap.size := ⟨_, rfl⟩
        have hmk1 := hmk wr
        have hbm : Below wr.heap.size wr (mk wr) := by rw [hmk2]; exact (Below.refl _ _).alloc (Nat.le_refl _) _
        have hrow := World.rowIs_made wr (.int .u64 0) S 28
        rw [← hmk2] at hrow
        have HT5 := Lib.hid (HT.out.below hbm)
        have HB5 := Lib.hid (HBW.out.trans (hbm.mono HBW.out.size))
        have HLT := Lib.hid (show ∀ r, r < n → B r < bw from fun r hr => hbw ▸ HT.out.lt r hr)
        have HV := Lib.hid (show u2.ownBlock ≠ some bw from fun e => by have := HT.out.own.lt _ e; omega)
        have hbw3 : W3.heap.size ≤ bw := hbw ▸ HBW.out.size
        rw [← hbw] at hmk1 hrow
        have HG5 := Lib.hid (HCT.out.1.below HB5.out)
        clear hmk hmk2 hbm hbw HBW HT hc0 hkn
        generalize mk wr = W5 at hmk1 hrow HT5 HB5 HG5
        have hr0 := hrow.cell (i := 0) hp0
        have hf0 := hrow.frozen 0
        have HROW := Lib.hid hrow
        have hp1 : (0 : Int) < (S : Int) := by omega
        clear hrow
        go_wp2_with fail
        go_loopw [43] (fun q wr => ∃ (s : Nat) (ways : Nat → Nat) (T : Nat → Nat → Nat), s ≤ S ∧ q = .int .i64 (s : Int) ∧ Hid (ChO (mayD d) n (Tn0 (mayD d) n) ways T s S) ∧ Hid (wr.rowIs bw 28 S (fun t => .int .u64 (ways t : Int))) ∧ Hid (TabW wr W3.heap.size 37 28 u2 n n B T) ∧ Hid (Below W3.heap.size W3 wr)) (fun q _ => S - (intOf q).toNat)
        case atStart =>
          refine ⟨0, updW (fun _ => 0) 0 1, fun _ _ => 0, Nat.zero_le _, rfl, Lib.hid (ChO.start hp0), Lib.hid ?_, Lib.hid ?_, Lib.hid ?_⟩
          · refine (HROW.out.set 0 _).congr fun t _ => ?_
            unfold updW
            split <;> rfl
          · exact HT5.out.setOther HV.out (fun r hr => by have := HLT.out r hr; omega) _ _
          · exact HB5.out.setCell (by exact hbw3) _
        case round =>
          obtain ⟨s, ways, T, hs, rfl, HCH, HW, HTB, HBW⟩ := hrel
          have hcc := (HCT.out.1.below HBW.out).1
          have hc0 : wr.cell? ⟨g, 0, none⟩ = some (.int .i64 (n : Int)) := cell_of (j := 0) hcc rfl
          clear hcc hc2 hr0 hf0 HROW HT5 HB5 HG5 hmk1
          by_cases hsS : s < S
          · have hss : (s : Int) < (S : Int) := by omega
            have hs0 : (0 : Int) ≤ (s : Int) := by omega
            have hws := HW.out.cell hsS
            obtain ⟨X, hX⟩ : ∃ X, X = ways s := ⟨_, rfl⟩
            rw [← hX] at hws
            by_cases hX0 : X = 0
            · subst hX0
              have hws0 : wr.cell? ⟨bw, s, none⟩ = some (.int .u64 0) := hws
              have HX := Lib.hid hX
              clear hws hX
              go_wp2_with fail
              go_roundw
              case rel => exact ⟨s + 1, ways, T, by omega, by go_num, Lib.hid (HCH.out.skip hsS HX.out.symm), HW, HTB, HBW⟩
              case measure => simp [intOf]; omega
            · have hX1 : ((X : Int) == 0) = false := by rw [beq_eq_false_iff_ne]; omega
              have hX2 : ¬ (X : Int) = 0 := by omega
              have hs16 : s < 65536 := by omega
              have hu : IntKind.u64.wrap (s : Int) = (s : Int) := by rw [IntKind.wrap_u64]; omega
              have hsn : s < 2 ^ n := by rw [← HS.out]; exact hsS
              have hon := ones wr s hs16
              rw [pcn_16 hsn hn16] at hon
              obtain ⟨i, hi⟩ : ∃ i, i = pcn s n := ⟨_, rfl⟩
              rw [← hi] at hon
              have HI := Lib.hid hi
              have CO := Lib.hid hon
              have HX := Lib.hid hX
              have hin : i ≤ n := hi ▸ pcn_le s n
              clear hi hon hsn hX
              go_wp2_with fail
              refine CO.out.mono ?_
              rintro _ W ⟨rfl, rfl⟩
              go_wp2_with fail
              clear hws hc0 hX1 hX2 hu
              go_loopw [59] (fun q wx => ∃ (k : Nat) (ways : Nat → Nat) (T : Nat → Nat → Nat), k ≤ n ∧ q = .int .i64 (k : Int) ∧ Hid (ChI (mayD d) n (Tn0 (mayD d) n) ways T s k S ∧ X = ways s) ∧ Hid (wx.rowIs bw 28 S (fun t => .int .u64 (ways t : Int))) ∧ Hid (TabW wx W3.heap.size 37 28 u2 n n B T) ∧ Hid (Below W3.heap.size W3 wx)) (fun q _ => n - (intOf q).toNat)
              case atStart => exact ⟨0, ways, T, Nat.zero_le _, rfl, Lib.hid ⟨HCH.out.into hsS, HX.out⟩, HW, HTB, HBW⟩
              case round =>
                clear HCH HW HTB HBW HX CO
                obtain ⟨k, ways, T, hk, rfl, HCH, HW, HTB, HBW⟩ := hrel
                have HCX := Lib.hid (HCT.out.1.below HBW.out)
                have hcc := HCX.out.1
                have hc0 := cell_of (j := 0) hcc rfl
                have hc1 := cell_of (j := 1) hcc rfl
                clear hcc
                by_cases hkn : k < n
                · have hkk : (k : Int) < (n : Int) := by omega
                  have hk0 : (0 : Int) ≤ (k : Int) := by omega
                  go_upto_region 20 with fail
                  go_cut [83] (fun c wx => c = .bool (okK (mayD d) n s k) ∧ Hid (Dr wr wx))
                  case first =>
                    by_cases hin2 : i < n
                    · have hii : (i : Int) < (n : Int) := by omega
                      have HMY := Lib.hid (may_any wr M _ _ d (HCT.out.2.below HBW.out) HL.out.2.2.2.1 HL.out.2.2.2.2 i k (show i < nD d by rw [← HN.out]; exact hin2) (by rw [← HL.out.2.2.1, ← HN.out]; exact hkn))
                      by_cases hb : s.testBit k = true
                      · obtain ⟨Z, hZ, hZ0⟩ := band_yes hs16 (show k < 16 by omega) hb
                        clear HMY
                        go_wp2_with fail
                        go_meet
                        case rel => exact ⟨by unfold okK; rw [hb]; rfl, Dr.refl _⟩
                      · have hb : s.testBit k = false := by simpa using hb
                        have hZ := band_no hs16 (show k < 16 by omega) hb
                        go_wp2_with fail
                        refine HMY.out.mono ?_
                        rintro _ W ⟨rfl, hW⟩
                        go_wp2_with fail
                        go_meet
                        case rel => exact ⟨by unfold okK; rw [hb, ← HI.out]; rfl, hW⟩
                    · have hii : ¬ (i : Int) < (n : Int) := by omega
                      have HB1 := Lib.hid (pcn_all (show pcn s n = n by rw [← HI.out]; omega) k hkn)
                      go_wp2_with fail
                      go_meet
                      case rel => exact ⟨by unfold okK; rw [HB1.out]; rfl, Dr.refl _⟩
                  case rest =>
                    obtain ⟨rfl, HD2⟩ := hcut
                    have HW2 : Hid (wc.rowIs bw 28 S (fun t => .int .u64 (ways t : Int))) := by obtain ⟨nz, hz⟩ := HD2.out; rw [hz]; exact HW.out
                    have HT2 := Lib.hid (HTB.out.below HD2.out.below)
                    have HB2 := Lib.hid (HBW.out.trans (HD2.out.below.mono HBW.out.size))
                    clear hc0 hc1 HCX HW HTB HBW HD2
                    cases hok : okK (mayD d) n s k
                    · go_wp2_with fail
                      go_roundw
                      case rel => exact ⟨k + 1, ways, T, by omega, by go_num, Lib.hid ⟨HCH.out.1.no hok, HCH.out.2⟩, HW2, HT2, HB2⟩
                      case measure => simp [intOf]; omega
                    · have hbt : s.testBit k = false := by unfold okK at hok; rw [Bool.and_eq_true, Bool.not_eq_true'] at hok; exact hok.1
                      have hin2 : i < n := by
                        rcases Nat.lt_or_ge i n with h1 | h1
                        · exact h1
                        · have := pcn_all (show pcn s n = n by rw [← HI.out]; omega) k hkn
                          rw [hbt] at this; cases this
                      have hor := bor_wth hs16 (show k < 16 by omega)
                      have hor2 := bor_wth2 hs16 (show k < 16 by omega)
                      have htS : wth s k < S := by rw [HS.out]; exact wth_lt (by rw [← HS.out]; exact hsS) hkn
                      have hbd := HCH.out.1.bounds hkn hok htS (by rw [← HI.out]; exact hin2)
                      rw [← HI.out, ← HCH.out.2] at hbd
                      have hf16 : fct n ≤ 20922789888000 := fct_16 ▸ fct_mono hn16
                      have ht16 : Tn0 (mayD d) n i k ≤ 20922789888000 := Nat.le_trans (Tn0_le i k) (Rn_le 0 hn16)
                      have hy := HCH.out.1.yes hok htS
                      rw [← HI.out, ← HCH.out.2] at hy
                      have HY := Lib.hid hy
                      have hgt := wth_gt hbt
                      have hr0 := HW2.out.cell htS
                      have hf0 := HW2.out.frozen (wth s k)
                      have HXS := Lib.hid HCH.out.2
                      obtain ⟨Q, hQ⟩ : ∃ Q, Q = X * Rn (mayD d) n (wth s k) := ⟨_, rfl⟩
                      have hmul : IntKind.u64.wrap ((X : Int) * ((Rn (mayD d) n (wth s k) : Nat) : Int)) = (Q : Int) := by
                        rw [← Int.natCast_mul, ← hQ, IntKind.wrap_u64]; omega
                      rw [← hQ] at HY hbd
                      have HQ := Lib.hid hQ
                      clear hy hok hbt hQ HCH
                      generalize hT : wth s k = t at *
                      clear hT
                      obtain ⟨Y, hY⟩ : ∃ Y, Y = ways t := ⟨_, rfl⟩
                      rw [← hY] at hr0 hbd HY
                      have hsum : IntKind.u64.wrap ((Y : Int) + (X : Int)) = ((Y + X : Nat) : Int) := by rw [IntKind.wrap_u64]; omega
                      have HYY := Lib.hid hY
                      obtain ⟨R, hR⟩ : ∃ R, R = Rn (mayD d) n t := ⟨_, rfl⟩
                      rw [← hR] at hmul HQ
                      have HR := Lib.hid hR
                      obtain ⟨Z, hZ⟩ : ∃ Z, Z = T i k := ⟨_, rfl⟩
                      rw [← hZ] at hbd HY
                      have hsum2 : IntKind.u64.wrap ((Z : Int) + (Q : Int)) = ((Z + Q : Nat) : Int) := by rw [IntKind.wrap_u64]; omega
                      have HZ := Lib.hid hZ
                      have ht0 : (0 : Int) ≤ (t : Int) := by omega
                      have ht1 : (t : Int) < (S : Int) := by omega
                      have hi0 : (0 : Int) ≤ (i : Int) := by omega
                      have hi1 : (i : Int) < (n : Int) := by omega
                      clear hY hR hZ hbd hf16 ht16
                      go_upto_region 22 with fail
                      refine nameC fun WQ hWQ => ?_
                      have hW3 : WQ.rowIs bw 28 S (fun q => .int .u64 (updW ways t (Y + X) q : Int)) := by
                        rw [hWQ.out]
                        refine (HW2.out.set t _).congr fun q _ => ?_
                        unfold updW
                        split <;> rfl
                      have hT3 : TabW WQ W3.heap.size 37 28 u2 n n B T := by
                        rw [hWQ.out]
                        exact HT2.out.setOther HV.out (fun r hr => by have := HLT.out r hr; omega) _ _
                      have hB4 : Below W3.heap.size W3 WQ := by
                        rw [hWQ.out]
                        exact HB2.out.setCell (by exact hbw3) _
                      have HW3 := Lib.hid hW3
                      have HT3 := Lib.hid hT3
                      have HB4 := Lib.hid hB4
                      have hcx := HCT.out.1.below hB4
                      have hc2 : WQ.cell? ⟨g, 2, none⟩ = some (.slice (some ⟨br, 0, none⟩) S S) := cell_of (j := 2) hcx.1 rfl
                      have hrt := hcx.2.cell (i := t) (by omega)
                      rw [← HR.out] at hrt
                      have hrk := (hT3.row i hin2).cell hkn
                      rw [← HZ.out] at hrk
                      have hrf := (hT3.row i hin2).frozen k
                      obtain ⟨o, cap, hu2, hoc⟩ := hT3.cellAt hin2
                      subst hu2
                      clear hW3 hT3 hB4 hcx hWQ HW2 HT2 HB2 hr0 hf0 hsum
                      obtain ⟨b, hb⟩ : ∃ b, b = B i := ⟨_, rfl⟩
                      rw [← hb] at hrk hrf hoc
                      have HBI := Lib.hid hb
                      have hbne : b ≠ bw := by have := HLT.out i hin2; omega
                      have hb3 : W3.heap.size ≤ b := by rw [hb]; exact HT3.out.ge i hin2
                      clear hb
                      have hoc' : WQ.cell? ⟨o, i, none⟩ = some (.slice (some ⟨b, 0, none⟩) n n) := hoc
                      have hnn : (k : Int) < (n : Int) := by omega
                      go_still_tail 21, (by kernel_rfl)
                      change wpList _ _ _ _ _ WQ.drew
                      go_wp2_with fail
                      have HW5 : Hid ((WQ.drew.setCell ⟨b, k, none⟩ (.int .u64 ((Z + Q : Nat) : Int))).rowIs bw 28 S (fun q => .int .u64 (updW ways t (Y + X) q : Int))) := (HW3.out.drew).setOther (fun e => hbne e.symm) _
                      have HT5 : Hid (TabW (WQ.drew.setCell ⟨b, k, none⟩ (.int .u64 ((Z + Q : Nat) : Int))) W3.heap.size 37 28 (.slice (some ⟨o, 0, none⟩) n cap) n n B (updT T i k (Z + Q))) := by
                        rw [HBI.out]
                        exact (HT3.out.below (Below.refl _ _).drew).set (by decide) hin2 k (Z + Q) fun r c _ _ => rfl
                      have HB5 := Lib.hid (HB4.out.drew.setCell (p := ⟨b, k, none⟩) (by exact hb3) (.int .u64 ((Z + Q : Nat) : Int)))
                      have HX5 : Hid (X = updW ways t (Y + X) s) := by
                        show X = _
                        unfold updW
                        rw [if_neg (by omega)]
                        exact HXS.out
                      go_roundw
                      case rel => exact ⟨k + 1, updW ways t (Y + X), updT T i k (Z + Q), by omega, by go_num, Lib.hid ⟨HY.out, HX5.out⟩, HW5, HT5, HB5⟩
                      case measure => simp [intOf]; omega
                · have hkk : ¬ (k : Int) < (n : Int) := by omega
                  obtain rfl : n = k := by omega
                  go_wp2_with fail
                  go_roundw
                  case rel => exact ⟨s + 1, ways, T, by omega, by go_num, Lib.hid HCH.out.1.out, HW, HTB, HBW⟩
                  case measure => simp [intOf]; omega
          · have hss : ¬ (s : Int) < (S : Int) := by omega
            obtain rfl : s = S := by omega
            go_wp2_with fail
            go_ret2
            refine ⟨u2, by rw [HC.out]; rfl, ?_, HB3.out.trans (HBW.out.mono HB3.out.size)⟩
            rw [HC.out]
            have := HTB.out.isTab hn16 (Tn0 (mayD d) n) (fun r c hr => HCH.out.done hr)
            rw [HN.out] at this
            exact this.mono fun b _ hb => Nat.le_trans HB3.out.size hb
end Go.Proofs.Ytbkgkgigcohbpaa
