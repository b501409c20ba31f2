import Derived.Test.YtpcodholllaceaaE3
namespace Go.Proofs.Ytpcodholllaceaa
open Go.RowKit Go.Shelf

theorem all_lenOk (ok : Nat → Bool) {xs : List Nat} (h : upTo ok xs xs.length) : allD ok xs = (decide ((1 : Int) ≤ (xs.length : Int)) && decide ((xs.length : Int) ≤ 24)) := by
  unfold allD lenOk
  rw [upTo_all h, Bool.and_true]
  congr 1 <;> exact decide_eq_decide.2 (by omega)
theorem all_not (ok : Nat → Bool) {xs : List Nat} {k : Nat} (hk : k < xs.length) (h : ok xs[k] = false) : allD ok xs = false := by
  unfold allD; rw [not_all hk h, Bool.and_false]
set_option maxRecDepth 100000 in
theorem refCoef_any (w : World) (M : Nat → Prop) (v : Value) (xs : List Nat) (h : IsU64 w M v xs) (hl : xs.length ≤ 140737488355328) :
    Calls Try.prog 30 #[v] w fun e w' => e = .returned (.bool (allD coefOk xs)) ∧ w = w' := by
  have H := Lib.hid h
  obtain ⟨A, c, rfl, h1, h2, -⟩ := h
  go_enter Try.func30, Try.ntmps30
  go_wp2_with fail
  go_loop [3] (fun i => ∃ k : Nat, k ≤ xs.length ∧ i = .int .i64 k ∧ Hid (upTo coefOk xs k)) (fun i => xs.length - (intOf i).toNat)
  case atStart => exact ⟨0, Nat.zero_le _, rfl, Lib.hid upTo_zero⟩
  case round =>
    obtain ⟨k, hk, rfl, HU⟩ := hrel
    by_cases hlt : k < xs.length
    · obtain ⟨b, off, rfl, hbl, hck⟩ := H.out.at_ (Below.refl _ _) hlt
      have hlt' : (k : Int) < (xs.length : Int) := by omega
      by_cases hc : coefOk xs[k] = true
      · have HS := Lib.hid (upTo_succ HU.out hlt hc)
        have b1 : decide ((1152921504606845789 : Int) ≤ ((xs[k] : Nat) : Int)) = false := by
          unfold coefOk at hc
          simp only [decide_eq_true_eq] at hc
          exact decide_eq_false (by omega)
        clear hc
        go_wp2_with fail
        go_round
        case rel => exact ⟨k + 1, by omega, by go_num, HS⟩
        case measure => simp [intOf]; omega
      · have HA := Lib.hid (all_not coefOk hlt (by simpa using hc))
        have b1 : decide ((1152921504606845789 : Int) ≤ ((xs[k] : Nat) : Int)) = true := by
          unfold coefOk at hc
          simp only [decide_eq_true_eq] at hc
          exact decide_eq_true (by omega)
        clear hc
        go_wp2_with fail
        go_ret
        exact ⟨by rw [HA.out]; rfl, rfl⟩
    · have hkk : k = xs.length := by omega
      subst hkk
      have HA := Lib.hid (all_lenOk coefOk HU.out)
      have hnl : ¬ (xs.length : Int) < (xs.length : Int) := by omega
      by_cases g1 : (1 : Int) ≤ (xs.length : Int)
      · go_wp2_with fail
        go_ret
        exact ⟨Eq.trans (show _ = Ending.returned (.bool (decide ((xs.length : Int) ≤ 24))) from rfl) (ret_bool (by rw [HA.out, decide_eq_true g1, Bool.true_and])), rfl⟩
      · go_wp2_with fail
        go_ret
        exact ⟨Eq.trans (show _ = Ending.returned (.bool false) from rfl) (ret_bool (by rw [HA.out, decide_eq_false (show ¬ (1 : Int) ≤ (xs.length : Int) by omega), Bool.false_and])), rfl⟩
set_option maxHeartbeats 1000000 in
theorem refPowers_any (w : World) (M : Nat → Prop) (v : Value) (xs : List Nat) (h : IsU64 w M v xs) (hl : xs.length ≤ 140737488355328) (hx : U64s xs) :
    Calls Try.prog 13 #[v] w (U64E w (powersD xs)) := by
  have CA := Lib.hid (refCoef_any w M v xs h hl)
  have H := Lib.hid h
  obtain ⟨A, c, rfl, h1, h2, -⟩ := h
  by_cases ha : allD coefOk xs = true
  · rw [ha] at CA
    have hp : powersD xs = (xs.map (pw 4), 0) := by unfold powersD; rw [if_pos ha]
    rw [hp]
    have hlen : xs.length ≤ 24 := by
      unfold allD lenOk at ha
      simp only [Bool.and_eq_true, decide_eq_true_eq] at ha
      exact ha.1.2
    have HX := Lib.hid hx
    clear hp ha hx hl
    obtain ⟨iu, hiu, hz0, hz1, hz2⟩ := info_parts Try.info_u64
    have HIU := Lib.hid (And.intro hiu (And.intro hz0 (And.intro hz1 hz2)))
    clear hiu hz0 hz1 hz2
    go_enter Try.func13, Try.ntmps13
    go_wp2_with fail
    refine CA.out.mono ?_
    rintro e w1 ⟨rfl, rfl⟩
    go_wp2_with fail
    have hE : (w.alloc (.cells #[] 22)).heap[w.heap.size]? = some (.cells #[] 22 (0, 0)) := by rw [heap_alloc_if, if_pos rfl]
    go_loopw [4, 5] (fun v i wr => ∃ k : Nat, k ≤ xs.length ∧ i = .int .i64 k ∧ Hid (wr.ownsRow w.heap.size 22 1 v k (rowU (pw 4) xs k)) ∧ Hid (Below w.heap.size w wr)) (fun _ i _ => xs.length - (intOf i).toNat)
    case atStart => exact ⟨0, Nat.zero_le _, rfl, Lib.hid (own_empty hE (Nat.le_refl _)), Lib.hid ((Below.refl _ _).alloc (Nat.le_refl _) _)⟩
    case round =>
      obtain ⟨k, hk, rfl, HO, HB⟩ := hrel
      by_cases hlt : k < xs.length
      · obtain ⟨b, off, rfl, hbl, hck⟩ := H.out.at_ HB.out hlt
        have hlt' : (k : Int) < (xs.length : Int) := by omega
        have CP := Lib.hid (refPow_any 4 xs[k] (HX.out _ (List.getElem_mem hlt)) wr)
        have MS := Lib.hid (map_snoc xs (pw 4) k hlt)
        obtain ⟨z, hz⟩ : ∃ z, pw 4 xs[k] = z := ⟨_, rfl⟩
        rw [hz] at CP MS
        have hsq := HB.out.size
        clear hz hE
        go_wp2_with fail
        refine CP.out.mono ?_
        rintro e w2 ⟨rfl, rfl⟩
        clear hck
        go_wp2_with (at_builtin; refine wpList_append_cells _ rfl _ _ 23 rfl w.heap.size 22 iu (.int .u64 0) 1 8 Try.underlying23 HIU.out.1 HIU.out.2.1 HIU.out.2.2.1 HIU.out.2.2.2 rfl (by decide) _ k _ rfl (HO.out.alloc _) (some ⟨wr.heap.size, 0, none⟩) 1 1 [u64v z] rfl rfl ?c1 ?c2 ?c3 ?c4 ?c5 ?_)
        case c1 => exact fun _ => ⟨_, rfl, cell_one_new _ _ _⟩
        case c2 => exact one_u64 _
        case c3 => unfold maxLen; omega
        case c4 => omega
        case c5 => simp; omega
        intro v7 w7 hown7 hgrow7 _
        rw [MS.out] at hown7
        have HO7 := Lib.hid hown7
        have HB7 := Lib.hid ((HB.out.alloc hsq _).grown hgrow7 (by simp; omega) (own_base HO.out))
        clear hown7 hgrow7
        go_wp2_with fail
        go_roundw
        case rel => exact ⟨k + 1, by omega, by go_num, HO7, HB7⟩
        case measure => simp [intOf]; omega
      · have hnl : ¬ (k : Int) < (xs.length : Int) := by omega
        go_wp2_with fail
        go_ret2
        have hkk : k = xs.length := by omega
        subst hkk
        have ho := HO.out
        unfold rowU at ho
        rw [List.take_length] at ho
        exact ⟨_, rfl, IsU64.ofOwn (by rw [List.length_map]; exact ho), HB.out⟩
  · have hp : powersD xs = ([], 230) := by unfold powersD; rw [if_neg ha]
    rw [hp]
    rw [show allD coefOk xs = false by simpa using ha] at CA
    clear hp ha hx
    go_enter Try.func13, Try.ntmps13
    go_wp2_with fail
    refine CA.out.mono ?_
    rintro e w1 ⟨rfl, rfl⟩
    go_wp2_with fail
    go_ret2
    exact ⟨_, rfl, IsSl.nil, Below.refl _ _⟩
end Go.Proofs.Ytpcodholllaceaa
