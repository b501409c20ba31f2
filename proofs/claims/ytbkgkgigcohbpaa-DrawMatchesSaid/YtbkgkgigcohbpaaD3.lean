import Derived.Test.YtbkgkgigcohbpaaC5
import Derived.Deep.OwnRows
import Derived.Test.YtbkgkgigcohbpaaC6
import Derived.StillTailTactics
import Derived.Maps.OwnOps
import Derived.Deep.DeepCutAuto
namespace Go.Proofs.Ytbkgkgigcohbpaa
open Go.RowKit

theorem frz_of {w : World} {g j : Nat} {cs : Array Value} {t : TypeId} (h : w.heap[g]? = some (.cells cs t (0, 0))) : w.frozen? ⟨g, j, none⟩ = false := by simp [World.frozen?, h]
theorem upd_take {l : List (Int × Int)} {k : Nat} (hk : k < l.length) : updK (fun f => (l.take k).contains f) l[k] true = fun f => (l.take (k + 1)).contains f := by
  funext f
  unfold updK
  by_cases e : f = l[k]
  · rw [if_pos e, eq_comm, List.contains_iff_mem, List.take_succ_eq_append_getElem hk, List.mem_append]
    exact Or.inr (by rw [e]; exact List.mem_singleton.2 rfl)
  · rw [if_neg e, Bool.eq_iff_iff, List.contains_iff_mem, List.contains_iff_mem, List.take_succ_eq_append_getElem hk, List.mem_append, List.mem_singleton]
    exact ⟨Or.inl, fun h => h.elim id fun h => absurd h e⟩
/-- the map of what is forbidden, filled so far -/
def NoW (w : World) (bm bn k : Nat) (l : List (Int × Int)) : Prop := w.heap[bn]? = some (.cells #[.map (some bm)] 68 (0, 0)) ∧ SetK edV Try.prog 47 4 w bm k (fun f => (l.take k).contains f)
/-- the counts in memory: their block and the row of the ways -/
def CntW (w : World) (g br n S bn bd : Nat) (f : Nat → Nat) : Prop :=
  w.heap[g]? = some (.cells #[.int .i64 (n : Int), .func (Fn.func 37) #[] #[.pointer (some ⟨bn, 0, none⟩), .pointer (some ⟨bd, 0, none⟩)], .slice (some ⟨br, 0, none⟩) S S] 54 (0, 0)) ∧ w.rowIs br 28 S (fun s => .int .u64 (f s : Int))
theorem CntW.set {w : World} {g br n S bn bd : Nat} {f f' : Nat → Nat} (h : CntW w g br n S bn bd f) (hne : g ≠ br) (i v : Nat) (hf : ∀ t, t < S → f' t = if t = i then v else f t) : CntW (w.setCell ⟨br, i, none⟩ (.int .u64 (v : Int))) g br n S bn bd f' :=
  ⟨by rw [heap_set_if, if_neg hne]; exact h.1, (h.2.set i _).congr fun t ht => by rw [hf t ht]; split <;> rfl⟩
theorem CntW.congr {w : World} {g br n S bn bd : Nat} {f f' : Nat → Nat} (h : CntW w g br n S bn bd f) (hf : ∀ t, t < S → f t = f' t) : CntW w g br n S bn bd f' := ⟨h.1, h.2.congr fun t ht => by rw [hf t ht]⟩
theorem CntW.below {w w' : World} {g br n S bn bd : Nat} {f : Nat → Nat} (h : CntW w g br n S bn bd f) (hb : Below w.heap.size w w') : CntW w' g br n S bn bd f :=
  ⟨(hb.block g (Array.getElem?_eq_some_iff.1 h.1).1).trans h.1, h.2.of_block (hb.block br h.2.lt)⟩
/-- the counts of a draw in memory -/
def IsCounts (w : World) (M : Nat → Prop) (g : Nat) (d : DrawD) : Prop := ∃ br bn bd, g ≠ br ∧ CntW w g br d.first.length (2 ^ d.first.length) bn bd (Rn (mayD d) d.first.length) ∧ MayW w M bn bd d
theorem edges_in {d : DrawD} (h : checkB d = true) {k : Nat} (hk : k < d.forb.length) : (0 ≤ d.forb[k].1 ∧ d.forb[k].1 < 192) ∧ 0 ≤ d.forb[k].2 ∧ d.forb[k].2 < 192 := by
  unfold checkB at h
  simp only [Bool.and_eq_true, List.all_eq_true, decide_eq_true_eq] at h
  have hf := h.2 d.forb[k] (List.getElem_mem hk)
  unfold hasF at hf
  rw [Bool.and_eq_true, List.contains_iff_mem, List.contains_iff_mem, List.mem_iff_getElem, List.mem_iff_getElem] at hf
  obtain ⟨⟨i, hi, e1⟩, j, hj, e2⟩ := hf
  rw [← e1, ← e2, ← nthI_get hi, ← nthI_get hj]
  exact ⟨pot_range h.1.1 hi, pot_range h.1.2.1 hj⟩
set_option maxHeartbeats 2000000 in
set_option maxRecDepth 8000 in
theorem prepare_any (w : World) (M : Nat → Prop) (v : Value) (d : DrawD) (h : IsDraw w M v d) (hc : checkB d = true) :
    Calls Try.prog 28 #[v] w fun e w' => ∃ g, e = .returned (.pointer (some ⟨g, 0, none⟩)) ∧ IsCounts w' M g d ∧ w.heap.size ≤ g ∧ Below w.heap.size w w' := by
  obtain ⟨v1, v2, v3, rfl, hi1, hi2, hi3⟩ := h
  have H1 := Lib.hid hi1
  have H2 := Lib.hid hi2
  have H3 := Lib.hid hi3
  have HE := Lib.hid (fun k hk => edges_in hc (k := k) hk)
  obtain ⟨A1, c1, rfl, hl1, -, -⟩ := hi1
  obtain ⟨A2, c2, rfl, hl2, -, -⟩ := hi2
  obtain ⟨A3, c3, rfl, hl3, hm3, -⟩ := hi3
  have hlen : d.forb.length ≤ 256 := by
    unfold checkB at hc
    simp only [Bool.and_eq_true, decide_eq_true_eq] at hc
    exact hc.1.2.2.2
  have HL : d.forb.length ≤ c3 := hl3
  have hmm := @run_makeMap Try.prog
  go_enter Try.func28, Try.ntmps28
  go_wp2_with fail
  go_loopw [15] (fun q wr => ∃ j : Nat, j ≤ d.forb.length ∧ q = .int .i64 j ∧ Hid (NoW wr (w.heap.size + 1) (w.heap.size + 1 + 1) j d.forb) ∧ Hid (Below w.heap.size w wr) ∧ wr.heap[w.heap.size]? = some (.cells #[.slice A1 d.first.length c1, .slice A2 d.second.length c2, .slice A3 d.forb.length c3] 25 (0, 0))) (fun q _ => d.forb.length - (intOf q).toNat)
  case atStart =>
    refine ⟨0, Nat.zero_le _, rfl, Lib.hid ?_, Lib.hid ?_, ?_⟩
    · refine ⟨by simp only [heap_alloc_if, World.size_alloc]; rw [if_pos trivial], ?_⟩
      have hm := ((SetK.made (kv := edV) (P := Try.prog) (kt := 47) (et := 4) (w.alloc (.cells #[.slice A1 d.first.length c1, .slice A2 d.second.length c2, .slice A3 d.forb.length c3] 25))).alloc (.cells #[.map (some (w.heap.size + 1))] 68))
      simp only [World.size_alloc] at hm
      exact hm
    · exact (((Below.refl w.heap.size w).alloc (Nat.le_refl _) _).alloc (by simp) _).alloc (by simp; omega) _
    · simp only [heap_alloc_if, World.size_alloc]
      rw [if_neg (by omega), if_neg (by omega), if_pos trivial]
  case round =>
    obtain ⟨j, hj, rfl, HN, HB, hbox⟩ := hrel
    have q0 := cell_of (j := 0) hbox rfl
    have q1 := cell_of (j := 1) hbox rfl
    have q2 := cell_of (j := 2) hbox rfl
    by_cases hlt : j < d.forb.length
    · obtain ⟨b3, o3, rfl, -, f1, f2⟩ := H3.out.at_ HB.out hlt
      have hlt' : (j : Int) < (d.forb.length : Int) := by omega
      have hj0 : (0 : Int) ≤ (j : Int) := by omega
      have hr := HE.out j hlt
      have n0 := cell_of (j := 0) HN.out.1 rfl
      have HS := Lib.hid HN.out.2
      have HU := Lib.hid (upd_take hlt)
      obtain ⟨lk, hlk⟩ := key_edge d.forb[j] (wf64 (by omega) (by omega)) (wf64 (by omega) (by omega))
      have HK := Lib.hid hlk
      have hwn : w.heap.size + 1 + 1 < wr.heap.size := by have := (Array.getElem?_eq_some_iff.1 HN.out.1).1; omega
      clear hlk hr HE
      generalize d.forb[j] = f at f1 f2 HU HK
      go_wp2_with (at_mapUpdate; refine wpList_update_setK (w := _) rfl _ _ _ 68 rfl Try.keyedEdge Try.underlying68 Try.underlying4 rfl (HS.out.alloc _) (by unfold maxLen; omega) edV_inj f lk rfl HK.out true rfl ?_; intro w8 hs8 hg8)
      have hBA := (Below.refl wr.heap.size wr).alloc (Nat.le_refl _) (.cells #[.int .i64 f.1, .int .i64 f.2] 47)
      have hbn : w8.heap[w.heap.size + 1 + 1]? = some (.cells #[.map (some (w.heap.size + 1))] 68 (0, 0)) :=
        (hg8.block (w.heap.size + 1 + 1) (by simp; omega) (by simp)).trans ((hBA.block _ hwn).trans HN.out.1)
      have hbd := (hg8.block w.heap.size (by simp; omega) (by simp)).trans ((hBA.block _ (by omega)).trans hbox)
      have hbb := Lib.hid ((HB.out.alloc HB.out.size (.cells #[.int .i64 f.1, .int .i64 f.2] 47)).grown hg8 (by have := HB.out.size; simp; omega) (fun k e => by cases e; omega))
      have HNN : Hid (NoW w8 (w.heap.size + 1) (w.heap.size + 1 + 1) (j + 1) d.forb) := ⟨hbn, by rw [HU.out] at hs8; exact hs8⟩
      clear hs8 hg8 hBA hbn
      go_roundw
      case rel => exact ⟨j + 1, by omega, by go_num, HNN, hbb, hbd⟩
      case measure => simp [intOf]; omega
    · have hnl : ¬ (j : Int) < (d.forb.length : Int) := by omega
      have n0 := cell_of (j := 0) HN.out.1 rfl
      have hNO : SetK edV Try.prog 47 4 wr (w.heap.size + 1) j (fun f => d.forb.contains f) := by
        have := HN.out.2
        rw [show j = d.forb.length by omega, List.take_length] at this
        exact (show j = d.forb.length by omega) ▸ this
      have HNO := Lib.hid hNO
      have HX := Lib.hid HN.out.1
      have hwn : w.heap.size + 1 + 1 < wr.heap.size := by have := (Array.getElem?_eq_some_iff.1 HN.out.1).1; omega
      have hn16 : 1 ≤ d.first.length ∧ d.first.length ≤ 16 := by
        unfold checkB at hc
        simp only [Bool.and_eq_true] at hc
        exact potB_len hc.1.1
      have HMW : Hid (MayW wr M (w.heap.size + 1 + 1) w.heap.size d) := ⟨w.heap.size + 1, j, _, _, _, HX.out, hbox, IsSl.below H1.out HB.out, IsSl.below H2.out HB.out, hNO⟩
      have HP : Hid (potB d.first = true ∧ potB d.second = true ∧ d.first.length = d.second.length) := by
        unfold checkB at hc
        simp only [Bool.and_eq_true, decide_eq_true_eq] at hc
        exact ⟨hc.1.1, hc.1.2.1, hc.1.2.2.1⟩
      clear hNO hmm HE H1 H2 H3 HN
      generalize hnn : d.first.length = n at *
      have HNN := Lib.hid hnn
      clear hnn
      obtain ⟨F, hF1, hF2, hF, hs1, hs2, hs3, hs4, hFF⟩ := size_facts hn16.1 hn16.2
      have hmk := make_u64 (F + 1) (Nat.succ_le_succ hF2)
      have HF := Lib.hid hF
      have HS1 := Lib.hid hs1
      clear hF hs1
      go_upto_region 9 with fail
      go_cut [7] (fun s7 wx => s7 = .int .i64 (F : Int) ∧ wx = (((wr.alloc (.cells #[.int .i64 (n : Int), .func (Fn.func 37) #[] #[.pointer (some ⟨w.heap.size + 1 + 1, 0, none⟩), .pointer (some ⟨w.heap.size, 0, none⟩)], .slice none 0 0] 54)).alloc (.cells (madeCells #[.int .u64 0] (F + 1)) 28)).setCell ⟨wr.heap.size, 2, none⟩ (.slice (some ⟨wr.heap.size + 1, 0, none⟩) (F + 1) (F + 1))))
      case first =>
        obtain ⟨X, hX⟩ : ∃ X : Int, X = (F : Int) := ⟨_, rfl⟩
        obtain ⟨mk, hmk1, hmk2⟩ : ∃ mk : World → World, (∀ w, (Instr.makeSlice 37 (.int .i64 (wrap64 (X + 1))) (.int .i64 (wrap64 (X + 1)))).run Try.prog w = .ok (.slice (some ⟨w.heap.size, 0, none⟩) (F + 1) (F + 1)) (mk w)) ∧ ∀ w : World, mk w = w.alloc (.cells (madeCells #[.int .u64 0] (F + 1)) 28) :=
          ⟨_, fun w => by rw [hX, hs3]; exact hmk w, fun _ => rfl⟩
        have HM2 := Lib.hid hmk2
        have HX7 := Lib.hid hX
        rw [HS1.out, hs2, ← hX]
        clear hmk hs2 hs3 hs4 hFF hX hF1 hF2 hn16 hmk2 HS1 HF
        generalize F + 1 = S at *
        have hcb : (mk (wr.alloc (.cells #[.int .i64 (n : Int), .func (Fn.func 37) #[] #[.pointer (some ⟨w.heap.size + 1 + 1, 0, none⟩), .pointer (some ⟨w.heap.size, 0, none⟩)], .slice none 0 0] 54))).heap[wr.heap.size]? = some (.cells #[.int .i64 (n : Int), .func (Fn.func 37) #[] #[.pointer (some ⟨w.heap.size + 1 + 1, 0, none⟩), .pointer (some ⟨w.heap.size, 0, none⟩)], .slice none 0 0] 54 (0, 0)) := by
          rw [HM2.out]; simp only [heap_alloc_if, World.size_alloc]; rw [if_neg (by omega), if_pos trivial]
        have hc2 := cell_of (j := 2) hcb rfl
        have hf2 := frz_of (j := 2) hcb
        clear hcb
        go_wp2_with fail
        go_meet
        case rel => exact ⟨HX7.out ▸ rfl, by rw [HM2.out]⟩
      case rest =>
        obtain ⟨rfl, hwx⟩ := hcut
        have hbe : Below w.heap.size w wc := by
          rw [hwx]
          have := HB.out.size
          exact ((HB.out.alloc (by omega) _).alloc (by simp; omega) _).setCell (by simp; omega) _
        have hbr : Below wr.heap.size wr wc := by
          rw [hwx]
          exact (((Below.refl wr.heap.size wr).alloc (Nat.le_refl _) _).alloc (by simp) _).setCell (by simp) _
        have hcb : wc.heap[wr.heap.size]? = some (.cells #[.int .i64 (n : Int), .func (Fn.func 37) #[] #[.pointer (some ⟨w.heap.size + 1 + 1, 0, none⟩), .pointer (some ⟨w.heap.size, 0, none⟩)], .slice (some ⟨wr.heap.size + 1, 0, none⟩) (F + 1) (F + 1)] 54 (0, 0)) := by
          rw [hwx, heap_set_if, if_pos rfl]
          simp only [heap_alloc_if, World.size_alloc]
          rw [if_neg (by omega), if_pos trivial]
          rfl
        have hro : wc.rowIs (wr.heap.size + 1) 28 (F + 1) (fun _ => .int .u64 0) := by
          rw [hwx]
          have := World.rowIs_made (wr.alloc (.cells #[.int .i64 (n : Int), .func (Fn.func 37) #[] #[.pointer (some ⟨w.heap.size + 1 + 1, 0, none⟩), .pointer (some ⟨w.heap.size, 0, none⟩)], .slice none 0 0] 54)) (.int .u64 0) (F + 1) 28
          rw [World.size_alloc] at this
          exact this.setOther (by simp) _
        have HW := Lib.hid hwx
        clear hwx n0 hbox q0 q1 q2 HX HNO HW hmk hl1 hl2 hl3 hm3 HL hlen hnl hlt hj
        have hwn2 : w.heap.size < wr.heap.size := by omega
        obtain ⟨g, hg⟩ : ∃ g : Nat, g = wr.heap.size := ⟨_, rfl⟩
        rw [← hg] at hcb hro hbr hwn hwn2 ⊢
        obtain ⟨w1, hw1⟩ : ∃ w1 : World, w1 = wr := ⟨_, rfl⟩
        rw [← hw1] at hbr HMW hg
        have HG := Lib.hid hg
        clear hg hw1
        have hc0 := cell_of (j := 0) hcb rfl
        have hc1 := cell_of (j := 1) hcb rfl
        have hc2 := cell_of (j := 2) hcb rfl
        have hr0 := hro.cell (i := F) (by omega)
        have hr1 := hro.frozen F
        have HCB := Lib.hid hcb
        have HRO := Lib.hid hro
        have HBE := Lib.hid hbe
        have HBR := Lib.hid hbr
        have hF0 : (0 : Int) ≤ (F : Int) := by omega
        clear hcb hro hbe hbr
        go_wp2_with fail
        go_loopw [8] (fun q wx => ∃ k : Nat, k ≤ F ∧ q = .int .i64 ((k : Int) - 1) ∧ Hid (CntW wx g (g + 1) n (F + 1) (w.heap.size + 1 + 1) w.heap.size (fun t => if k ≤ t then Rn (mayD d) n t else 0)) ∧ Hid (Below w.heap.size w wx) ∧ Hid (Below g w1 wx)) (fun q _ => (intOf q + 1).toNat)
        case atStart =>
          refine ⟨F, Nat.le_refl _, rfl, Lib.hid ?_, Lib.hid ?_, Lib.hid ?_⟩
          · refine CntW.set (f := fun _ => 0) ⟨HCB.out, HRO.out⟩ (by omega) F 1 ?_
            intro t ht
            by_cases e : t = F
            · rw [if_pos e, if_pos (by omega), e, Rn_full HF.out]
            · rw [if_neg e, if_neg (by omega)]
          · exact HBE.out.setCell (by show w.heap.size ≤ g + 1; omega) _
          · exact HBR.out.setCell (by show g ≤ g + 1; omega) _
        case round =>
          obtain ⟨k, hk, rfl, HC, HB2, HB3⟩ := hrel
          clear hc0 hc1 hc2 hr0 hr1 HCB HRO HBE HBR HB hs2 hs3 hs4 hFF HS1 hF0
          have hcc := HC.out.1
          have hc0 := cell_of (j := 0) hcc rfl
          have hc1 := cell_of (j := 1) hcc rfl
          have hc2 := cell_of (j := 2) hcc rfl
          clear hcc
          rcases Nat.eq_zero_or_pos k with hk0 | hk0
          · subst hk0
            go_wp2_with fail
            go_ret
            refine ⟨g, rfl, ⟨g + 1, w.heap.size + 1 + 1, w.heap.size, by omega, ?_, HMW.out.below (HG.out ▸ HB3.out)⟩, by omega, HB2.out⟩
            rw [HNN.out, HF.out]
            exact HC.out.congr fun t _ => if_pos (Nat.zero_le t)
          · obtain ⟨s, rfl⟩ : ∃ s, k = s + 1 := ⟨k - 1, by omega⟩
            have hks : (((s + 1 : Nat) : Int) - 1) = (s : Int) := by omega
            have hs0 : (0 : Int) ≤ (s : Int) := by omega
            have hu : IntKind.u64.wrap (s : Int) = (s : Int) := by rw [IntKind.wrap_u64]; omega
            have hsn : s < 2 ^ n := by rw [HF.out]; omega
            have hon := ones wr s (by omega)
            rw [pcn_16 hsn hn16.2] at hon
            have hil := pcn_lt HF.out (show s < F by omega)
            obtain ⟨i, hi⟩ : ∃ i, i = pcn s n := ⟨_, rfl⟩
            rw [← hi] at hon hil
            have HI := Lib.hid hi
            have CO := Lib.hid hon
            clear hi hon hsn
            simp only [hks]
            go_wp2_with fail
            refine CO.out.mono ?_
            rintro _ W ⟨rfl, rfl⟩
            go_wp2_with fail
            go_loopw [59] (fun q wx => ∃ k : Nat, k ≤ n ∧ q = .int .i64 (k : Int) ∧ Hid (CntW wx g (g + 1) n (F + 1) (w.heap.size + 1 + 1) w.heap.size (fun t => if t = s then sumB (addK (mayD d) n s) k else if s < t then Rn (mayD d) n t else 0)) ∧ Hid (Below w.heap.size w wx) ∧ Hid (Below g w1 wx)) (fun q _ => n - (intOf q).toNat)
            case atStart =>
              refine ⟨0, Nat.zero_le _, rfl, Lib.hid (HC.out.congr fun t _ => ?_), HB2, HB3⟩
              by_cases e : t = s
              · rw [if_pos e, if_neg (by omega)]; rfl
              · rw [if_neg e]
                by_cases e2 : s < t
                · rw [if_pos e2, if_pos (by omega)]
                · rw [if_neg e2, if_neg (by omega)]
            case round =>
              clear hc0 hc1 hc2 HC HB2 HB3
              obtain ⟨k, hkn, rfl, HC, HB2, HB3⟩ := hrel
              have hcc := HC.out.1
              have hc0 := cell_of (j := 0) hcc rfl
              have hc1 := cell_of (j := 1) hcc rfl
              have hc2 := cell_of (j := 2) hcc rfl
              clear hcc
              by_cases hlt2 : k < n
              · have hki : (k : Int) < (n : Int) := by omega
                go_upto_region 18 with fail
                have HMX := HMW.out.below (HG.out ▸ HB3.out)
                have hmay := may_any wr M _ _ d HMX HP.out.1 HP.out.2.1 i k (by rw [HNN.out]; exact hil) (by rw [← HP.out.2.2]; exact hlt2)
                have HMY := Lib.hid hmay
                clear hmay HMX
                go_cut [75] (fun c wx => c = .bool (!s.testBit k && mayD d i k) ∧ Hid (Dr wr wx))
                case first =>
                  by_cases hb : s.testBit k = true
                  · obtain ⟨P, hP, hP0⟩ := band_yes (show s < 65536 by omega) (show k < 16 by omega) hb
                    have hk0 : (0 : Int) ≤ (k : Int) := by omega
                    go_wp2_with fail
                    go_meet
                    case rel => exact ⟨by rw [hb]; rfl, Dr.refl _⟩
                  · have hb : s.testBit k = false := by simpa using hb
                    have hP := band_no (show s < 65536 by omega) (show k < 16 by omega) hb
                    have hk0 : (0 : Int) ≤ (k : Int) := by omega
                    go_wp2_with fail
                    refine HMY.out.mono ?_
                    rintro _ W ⟨rfl, hW⟩
                    go_wp2_with fail
                    go_meet
                    case rel => exact ⟨by rw [hb]; rfl, hW⟩
                case rest =>
                  obtain ⟨rfl, HD⟩ := hcut
                  have HC2 := Lib.hid (HC.out.below HD.out.below)
                  have HB4 := Lib.hid (HB2.out.trans (HD.out.below.mono HB2.out.size))
                  have HB5 := Lib.hid (HB3.out.trans (HD.out.below.mono (by have := lt_heap HC.out.1; omega)))
                  clear hc0 hc1 hc2 HC HB2 HB3 HMY HD
                  have hcc := HC2.out.1
                  have hc0 := cell_of (j := 0) hcc rfl
                  have hc2 : wc.cell? ⟨g, 2, none⟩ = some (.slice (some ⟨g + 1, 0, none⟩) (F + 1) (F + 1)) := cell_of (j := 2) hcc rfl
                  have hrs := HC2.out.2.cell (i := s) (by omega)
                  have hrf := HC2.out.2.frozen s
                  simp only [if_pos trivial] at hrs
                  clear hcc
                  cases hbm : (!s.testBit k && mayD d i k)
                  · go_wp2_with fail
                    go_roundw
                    case rel =>
                      refine ⟨k + 1, by omega, by go_num, Lib.hid (HC2.out.congr fun t _ => ?_), HB4, HB5⟩
                      by_cases e : t = s
                      · rw [if_pos e, if_pos e, sumB]
                        have : addK (mayD d) n s k = 0 := by
                          unfold addK; rw [← HI.out, hbm]; rfl
                        rw [this, Nat.add_zero]
                      · rw [if_neg e, if_neg e]
                    case measure => simp [intOf]; omega
                  · rw [Bool.and_eq_true, Bool.not_eq_true'] at hbm
                    have hbt := hbm.1
                    have hadd : addK (mayD d) n s k = Rn (mayD d) n (wth s k) := addK_yes hbt (by rw [← HI.out]; exact hbm.2)
                    have hor := bor_wth (show s < 65536 by omega) (show k < 16 by omega)
                    have hor2 := bor_wth2 (show s < 65536 by omega) (show k < 16 by omega)
                    have htF : wth s k < F + 1 := HF.out ▸ wth_lt (by rw [HF.out]; omega) hlt2
                    have hst := wth_gt hbt
                    have hrt := HC2.out.2.cell (i := wth s k) htF
                    simp only [if_neg (show ¬ wth s k = s by omega), if_pos hst] at hrt
                    have hsum := part_le (may := mayD d) HF.out (show s < F by omega) hn16.2 (show k + 1 ≤ n by omega)
                    rw [sumB, hadd] at hsum
                    have hadd' : sumB (addK (mayD d) n s) (k + 1) = sumB (addK (mayD d) n s) k + Rn (mayD d) n (wth s k) := by rw [sumB, hadd]
                    have HA := Lib.hid hadd'
                    clear hadd hadd' hbm hbt
                    generalize wth s k = t at *
                    generalize Rn (mayD d) n t = R at *
                    generalize hPS : sumB (addK (mayD d) n s) k = PS at *
                    have hu2 : IntKind.u64.wrap ((PS : Int) + (R : Int)) = ((PS + R : Nat) : Int) := by rw [IntKind.wrap_u64]; omega
                    have HPS := Lib.hid hPS
                    clear hPS hsum
                    have hk0 : (0 : Int) ≤ (k : Int) := by omega
                    have ht0 : (0 : Int) ≤ (t : Int) := by omega
                    have ht1 : (t : Int) < ((F + 1 : Nat) : Int) := by omega
                    have hs1 : (s : Int) < ((F + 1 : Nat) : Int) := by omega
                    have hs1' : (s : Int) < (F : Int) + 1 := by omega
                    have ht1' : (t : Int) < (F : Int) + 1 := by omega
                    go_upto_region 19 with fail
                    go_still_tail 19, (by kernel_rfl)
                    change wpList _ _ _ _ _ wc.drew
                    go_wp2_with fail
                    have HC3 : Hid (CntW (wc.drew.setCell ⟨g + 1, s, none⟩ (.int .u64 ((PS + R : Nat) : Int))) g (g + 1) n (F + 1) (w.heap.size + 1 + 1) w.heap.size (fun t => if t = s then sumB (addK (mayD d) n s) (k + 1) else if s < t then Rn (mayD d) n t else 0)) := by
                      refine (HC2.out.below (Below.refl _ _).drew).set (by omega) s (PS + R) fun t' _ => ?_
                      by_cases e : t' = s
                      · rw [if_pos e, if_pos e, HA.out]
                      · rw [if_neg e, if_neg e, if_neg e]
                    have HB6 := Lib.hid (HB4.out.drew.setCell (p := ⟨g + 1, s, none⟩) (by show w.heap.size ≤ g + 1; omega) (.int .u64 ((PS + R : Nat) : Int)))
                    have HB7 := Lib.hid (HB5.out.drew.setCell (p := ⟨g + 1, s, none⟩) (by show g ≤ g + 1; omega) (.int .u64 ((PS + R : Nat) : Int)))
                    go_roundw
                    case rel => exact ⟨k + 1, by omega, by go_num, HC3, HB6, HB7⟩
                    case measure => simp [intOf]; omega
              · have hki : ¬ (k : Int) < (n : Int) := by omega
                go_wp2_with fail
                have HC4 : Hid (CntW wr g (g + 1) n (F + 1) (w.heap.size + 1 + 1) w.heap.size (fun t => if s ≤ t then Rn (mayD d) n t else 0)) := by
                  refine HC.out.congr fun t _ => ?_
                  by_cases e : t = s
                  · rw [if_pos e, if_pos (by omega), show k = n by omega, e, Rn_step HF.out (show s < F by omega)]
                  · rw [if_neg e]
                    by_cases e2 : s < t
                    · rw [if_pos e2, if_pos (by omega)]
                    · rw [if_neg e2, if_neg (by omega)]
                go_roundw
                case rel => exact ⟨s, by omega, rfl, HC4, HB2, HB3⟩
                case measure => simp [intOf]
end Go.Proofs.Ytbkgkgigcohbpaa
