/- Valid of package matching. -/
import Derived.Test.YtolappaekjdcgaaA3
import Derived.Test.YtolappaekjdcgaaA8
namespace Go.Proofs.Ytolappaekjdcgaa
open Go.RowKit Go.Shelf Go.Deep
/-- entry i of a list is right -/
def okV (g : GrD) (m : List Int) (i : Nat) : Bool := (nthI m i == -1) || (g.edges.contains ((i : Int), nthI m i) && !(m.take i).contains (nthI m i))
def validB (g : GrD) (m : List Int) : Bool := chkB g && (decide ((m.length : Int) = g.left) && (List.range m.length).all (okV g m))
def validG (g : GrD) (m : List Int) : Int := if validB g m then 0 else 250
theorem validG_no {g : GrD} {m : List Int} (h : validB g m = false) : validG g m = 250 := by unfold validG; rw [h]; rfl
theorem validG_yes {g : GrD} {m : List Int} (h : validB g m = true) : validG g m = 0 := by unfold validG; rw [h]; rfl
theorem valid_no1 {g : GrD} {m : List Int} (h : chkB g = false) : validB g m = false := by unfold validB; rw [h]; rfl
theorem valid_no2 {g : GrD} {m : List Int} (h : ¬ (m.length : Int) = g.left) : validB g m = false := by unfold validB; rw [decide_eq_false h]; simp
theorem valid_no3 {g : GrD} {m : List Int} {i : Nat} (hi : i < m.length) (h : okV g m i = false) : validB g m = false := by
  unfold validB
  rw [List.all_eq_false.2 ⟨i, List.mem_range.2 hi, by rw [h]; decide⟩]; simp
def okVTo (g : GrD) (m : List Int) (k : Nat) : Prop := ∀ i, i < k → okV g m i = true
theorem okVTo_succ {g : GrD} {m : List Int} {k : Nat} (h : okVTo g m k) (hk : okV g m k = true) : okVTo g m (k + 1) := fun j hj => by
  rcases Nat.lt_or_ge j k with h1 | h1
  · exact h j h1
  · rw [show j = k by omega]; exact hk
theorem valid_yes {g : GrD} {m : List Int} (h : chkB g = true) (hl : (m.length : Int) = g.left) (ha : okVTo g m m.length) : validB g m = true := by
  unfold validB
  rw [h, decide_eq_true hl, List.all_eq_true.2 fun i hi => ha i (List.mem_range.1 hi)]; rfl
theorem SetB.look {P : Program} {kt et : TypeId} {q : IntKind} {w : World} {b n : Nat} {s : Int → Bool} (h : SetB P kt et q w b n s) {t : TypeId} (hk : P.underlying kt = some (.int q)) (ht : P.underlying t = some (.map kt et)) (he : P.underlying et = some .bool) (hz : (zeroValue et).run P w = .ok (.bool false) w) (key : Int) (hwf : (Lit.int q key).wf = true) :
    (Instr.lookup t (.map (some b)) (.int q key) false).run P w = .ok (.bool (s key)) w := by
  obtain ⟨D, hown, hs⟩ := h
  obtain ⟨v, ps, hrun, hv⟩ := hown.lookup (Maps.int_keyed hk) ht hz (plainElem_bool he false) (Maps.keyOf_int_mk hk hwf)
  obtain ⟨c, rfl, hc⟩ := plainElem_bool_inv he hv
  simp only [Prod.mk.injEq] at hc
  rw [hs key hwf] at hc
  have hcs : c = s key := by have := hc.1; injection this with h1; injection h1 with h2; exact h2.symm
  rw [hcs] at hrun
  exact hrun
/-- what is used after k entries -/
def usedTo (m : List Int) (k : Nat) (s : Int → Bool) : Prop := ∀ x, x ≠ -1 → s x = (m.take k).contains x
theorem take_snocI {m : List Int} {k : Nat} (hk : k < m.length) : m.take (k + 1) = m.take k ++ [nthI m k] := by
  rw [List.take_succ_eq_append_getElem hk, nthI_get hk]
theorem usedTo_skip {m : List Int} {k : Nat} {s : Int → Bool} (h : usedTo m k s) (hk : k < m.length) (e : nthI m k = -1) : usedTo m (k + 1) s := fun x hx => by
  rw [take_snocI hk, h x hx, e]
  simp [hx]
theorem usedTo_add {m : List Int} {k : Nat} {s : Int → Bool} (h : usedTo m k s) (hk : k < m.length) : usedTo m (k + 1) (updS s (nthI m k) true) := fun x hx => by
  rw [take_snocI hk]
  unfold updS
  by_cases e : x = nthI m k
  · rw [if_pos e, e]; simp
  · rw [if_neg e, h x hx]; simp [e]
theorem wf_of_edge {g : GrD} {L R : Nat} (hg : GOk g L R) {e : Int × Int} (h : g.edges.contains e = true) : 0 ≤ e.2 ∧ e.2 < R := by
  rw [List.contains_iff_mem] at h
  obtain ⟨i, hi, rfl⟩ := List.mem_iff_getElem.1 h
  have := hg.rng i hi
  rw [nthE_get hi] at this
  exact this.2.2
set_option maxHeartbeats 4000000 in
theorem valid_any (w : World) (M M' : Nat → Prop) (v v' : Value) (g : GrD) (m : List Int) (h : IsGraph w M v g) (h' : IsInts w M' v' m) (hm60 : m.length ≤ 1000) : Calls Try.prog 13 #[v, v'] w (RetE (validG g m) w) := by
  have CC := fun W (hb : Below w.heap.size w W) => Lib.hid (mcheck_any W M v g (h.below hb))
  have HI := Lib.hid h'
  obtain ⟨v2, rfl, hed⟩ := h
  have HE := Lib.hid hed
  obtain ⟨A, c, rfl, hl1, hl2, -⟩ := h'
  have HNo := Lib.hid (@validG_no g m)
  have HYes := Lib.hid (@validG_yes g m)
  obtain ⟨z, hz⟩ : ∃ z, z = validG g m := ⟨_, rfl⟩
  rw [← hz] at HNo HYes ⊢
  clear hz hed
  cases hc : chkB g
  · have HZ := Lib.hid (HNo.out (valid_no1 hc))
    rw [chkG_no hc] at CC
    clear hc
    go_enter Try.func13, Try.ntmps13
    go_wp2_with fail
    refine nameW fun W1 hW1 => ?_
    have HB1 : Hid (Below w.heap.size w W1) := by rw [hW1.out]; exact (Below.refl _ _).alloc (Nat.le_refl _) _
    clear hW1
    refine (CC W1 HB1.out).out.mono ?_
    rintro e w2 ⟨rfl, hb2⟩
    have HB2 := Lib.hid (HB1.out.trans (hb2.mono HB1.out.size))
    clear hb2 HB1 CC
    go_wp2_with fail
    go_ret
    exact ⟨ret_int HZ.out.symm, HB2.out⟩
  · obtain ⟨L, R, hg⟩ := gok_of hc
    have HG := Lib.hid hg
    have hr512 := hg.r512
    rw [chkG_yes hc] at CC
    have HNo2 : Hid ((m.length : Int) ≠ (L : Int) → z = 250) := Lib.hid (fun h => HNo.out (valid_no2 (by rw [hg.left]; exact h)))
    have HYes2 : Hid ((m.length : Int) = (L : Int) → okVTo g m m.length → z = 0) := Lib.hid (fun h ha => HYes.out (valid_yes hc (by rw [hg.left]; exact h) ha))
    have HNo3 := Lib.hid (fun i (hi : i < m.length) (h : okV g m i = false) => HNo.out (valid_no3 hi h))
    rw [hg.left] at CC ⊢
    clear hc hg HNo HYes
    go_enter Try.func13, Try.ntmps13
    go_wp2_with fail
    refine nameW fun W1 hW1 => ?_
    have HB1 : Hid (Below w.heap.size w W1) := by rw [hW1.out]; exact (Below.refl _ _).alloc (Nat.le_refl _) _
    have k1 : W1.heap[w.heap.size]? = some (.cells #[.int .i64 (L : Int), .int .i64 g.right, v2] 24 (0, 0)) := by rw [hW1.out, heap_alloc_if, if_pos rfl]
    clear hW1
    refine (CC W1 HB1.out).out.mono ?_
    rintro e w2 ⟨rfl, hb2⟩
    have HB2 := Lib.hid (HB1.out.trans (hb2.mono HB1.out.size))
    have k2 := (hb2.block _ (lt_heap k1)).trans k1
    have hlw := lt_heap k2
    have HK2 := Lib.hid k2
    have c0 : w2.cell? ⟨w.heap.size, 0, none⟩ = some (.int .i64 (L : Int)) := cell_of k2 rfl
    have c2 : w2.cell? ⟨w.heap.size, 2, none⟩ = some v2 := cell_of k2 rfl
    clear hb2 HB1 CC k1 k2
    by_cases hL : m.length = L
    · have hne : ((m.length : Int) != (L : Int)) = false := by simp [hL]
      have hne2 : (m.length : Int) = (L : Int) := by omega
      have HLL := Lib.hid hne2
      have hmm := @run_makeMap Try.prog
      go_upto_region 4 with fail
      clear hmm
      refine nameC fun W3 hW3 => ?_
      have hB3 : Below w2.heap.size w2 W3 := by rw [hW3.out]; exact (Below.refl _ _).alloc (Nat.le_refl _) _
      have hS3 : SetB Try.prog 3 4 .i64 W3 w2.heap.size 0 (fun _ => false) := by rw [hW3.out]; exact SetB.made w2
      have HB3 := Lib.hid (HB2.out.trans (hB3.mono HB2.out.size))
      have HX3 := Lib.hid ((hB3.block _ hlw).trans HK2.out)
      have HS3 := Lib.hid hS3
      have hum : w.heap.size < w2.heap.size := hlw
      obtain ⟨um, hum2⟩ : ∃ um, um = w2.heap.size := ⟨_, rfl⟩
      rw [← hum2] at HS3 hum ⊢
      clear hW3 hB3 hS3 hum2 c0 c2 HK2 HB2 hlw
      go_wp2_with fail
      go_loopw [23] (fun q23 wr => ∃ k : Nat, k ≤ m.length ∧ q23 = .int .i64 (k : Int) ∧ Hid (Below w.heap.size w wr) ∧ Hid (wr.heap[w.heap.size]? = some (.cells #[.int .i64 (L : Int), .int .i64 g.right, v2] 24 (0, 0))) ∧ Hid (okVTo g m k) ∧ Hid (∃ n s, SetB Try.prog 3 4 .i64 wr um n s ∧ n ≤ k ∧ usedTo m k s)) (fun q _ => m.length - (intOf q).toNat)
      case atStart => exact ⟨0, Nat.zero_le _, rfl, HB3, HX3, Lib.hid (fun i hi => absurd hi (by omega)), Lib.hid ⟨0, _, HS3.out, Nat.le_refl _, fun x _ => by simp⟩⟩
      case round =>
        obtain ⟨k, hk, rfl, HB, HX, HOK, HST⟩ := hrel
        obtain ⟨n, s, hset, hnk, hus⟩ := HST.out
        have HSet := Lib.hid hset
        have HUs := Lib.hid hus
        have hbl := lt_heap HX.out
        clear HST hset hus
        by_cases hlt : k < m.length
        · have hlt2 : (k : Int) < (m.length : Int) := by omega
          have hk0 : (0 : Int) ≤ (k : Int) := by omega
          obtain ⟨b, off, rfl, hb, e0⟩ := HI.out.at_ HB.out hlt
          have HN3 := Lib.hid (HNo3.out k hlt)
          have HOKs := Lib.hid (fun h => okVTo_succ HOK.out (k := k) h)
          have HSk := Lib.hid (fun e => usedTo_skip HUs.out hlt e)
          have HAd := Lib.hid (usedTo_add HUs.out hlt)
          have HOV : Hid (okV g m k = ((nthI m k == -1) || (g.edges.contains ((k : Int), nthI m k) && !(m.take k).contains (nthI m k)))) := rfl
          obtain ⟨x, hx⟩ : ∃ x, x = nthI m k := ⟨_, rfl⟩
          rw [← hx] at e0 HOV HSk HAd
          clear hx
          by_cases hx1 : x = -1
          · have HOKn := Lib.hid (HOKs.out (by rw [HOV.out, hx1]; rfl))
            have HSn := Lib.hid (HSk.out hx1)
            have ht : (x == -1) = true := by simp [hx1]
            subst hx1
            go_wp2_with fail
            go_roundw
            case rel => exact ⟨k + 1, by omega, by go_num, HB, HX, HOKn, Lib.hid ⟨n, s, HSet.out, by omega, HSn.out⟩⟩
            case measure => simp [intOf]; omega
          · have ht : (x == -1) = false := by simpa using hx1
            have c2 : wr.cell? ⟨w.heap.size, 2, none⟩ = some v2 := cell_of HX.out rfl
            have CS := Lib.hid (search_any wr M v2 g.edges (IsSl.below HE.out HB.out) HG.out.srt HG.out.len ((k : Int), x))
            have HWE := Lib.hid (fun h => wf_of_edge HG.out (e := ((k : Int), x)) h)
            have HX1 := Lib.hid hx1
            cases hcon : g.edges.contains ((k : Int), x)
            · have HZ := Lib.hid (HN3.out (by rw [HOV.out, ht, hcon]; rfl))
              unfold SrchW at CS
              rw [hcon] at CS
              clear hcon hx1
              go_wp2_with fail
              refine CS.out.mono ?_
              rintro e w5 ⟨i, -, rfl, hb5⟩
              go_wp2_with fail
              go_ret
              exact ⟨ret_int HZ.out.symm, HB.out.trans (hb5.mono HB.out.size)⟩
            · have hxr := HWE.out hcon
              dsimp only at hxr
              have HWF := Lib.hid (wfI (x := x) hxr.1 (by omega))
              have HCON := Lib.hid hcon
              unfold SrchW at CS
              rw [hcon] at CS
              clear hcon hx1
              go_wp2_with fail
              refine CS.out.mono ?_
              rintro e w5 ⟨i, -, rfl, hb5⟩
              have HB5 := Lib.hid (HB.out.trans (hb5.mono HB.out.size))
              have HX5 := Lib.hid ((hb5.block _ hbl).trans HX.out)
              have HS5 := Lib.hid (HSet.out.below hb5 (Nat.le_refl _))
              have hn5 : n < maxLen := by unfold maxLen; omega
              have hlook := HS5.out.look Try.underlying3 Try.underlying49 Try.underlying4 (Try.zeroBool25 w5) x HWF.out
              have HSX := Lib.hid (HUs.out x HX1.out)
              clear hb5 CS c2
              cases hsx : s x
              · rw [hsx] at hlook HSX
                have HOKn := Lib.hid (HOKs.out (by rw [HOV.out, HCON.out, ← HSX.out]; simp))
                clear hsx
                go_wp2_with (at_mapUpdate; refine wpList_update_set (w := _) rfl _ _ _ 49 rfl Try.underlying3 Try.underlying49 Try.underlying4 rfl HS5.out hn5 _ rfl HWF.out true rfl ?_; intro w8 hs8 hg8)
                have HB8 := Lib.hid (HB5.out.grown hg8 HB5.out.size (fun j e => by cases e; omega))
                have HX8 := Lib.hid ((hg8.block _ (lt_heap HX5.out) (fun e => by cases e; omega)).trans HX5.out)
                exact ⟨⟨k + 1, by omega, by go_num, HB8, HX8, HOKn, Lib.hid ⟨n + 1, _, hs8, by omega, HAd.out⟩⟩, by simp [intOf]; omega⟩
              · rw [hsx] at hlook HSX
                have HZ := Lib.hid (HN3.out (by rw [HOV.out, HCON.out, ← HSX.out, ht]; rfl))
                clear hsx
                go_wp2_with fail
                go_ret
                exact ⟨ret_int HZ.out.symm, HB5.out⟩
        · have hnl : ¬ (k : Int) < (m.length : Int) := by omega
          obtain rfl : m.length = k := by omega
          have HZ := Lib.hid (HYes2.out HLL.out HOK.out)
          go_wp2_with fail
          go_ret
          exact ⟨ret_int HZ.out.symm, HB.out⟩
    · have HZ := Lib.hid (HNo2.out (by omega))
      have hne : ((m.length : Int) != (L : Int)) = true := by simp; omega
      have hne2 : ¬ (m.length : Int) = (L : Int) := by omega
      go_wp2_with fail
      go_ret
      exact ⟨ret_int HZ.out.symm, HB2.out⟩
end Go.Proofs.Ytolappaekjdcgaa
