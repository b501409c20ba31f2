import Derived.Test.YthlnfjbedehjdaaZd
import Derived.Test.YthlnfjbedehjdaaC3
import Derived.WalkMore
import Derived.Deep.LoopGhost
/- All completions, as the program counts them. No program here. -/
namespace Go.Proofs.Ythlnfjbedehjdaa
/-- the next completion -/
def incO : List Int → Option (List Int)
  | [] => none
  | x :: r => if x = 3 then (incO r).map (1 :: ·) else some ((x + 1) :: r)
def threeO (r : List Int) : List (List Int) := [1 :: r, 2 :: r, 3 :: r]
/-- all completions of n games -/
def allO : Nat → List (List Int)
  | 0 => [[]]
  | n + 1 => (allO n).flatMap threeO
/-- each is followed by the next, and the last has none -/
def RunO : List (List Int) → Prop
  | [] => False
  | [a] => incO a = none
  | a :: b :: l => incO a = some b ∧ RunO (b :: l)
theorem runO_three : ∀ (l : List (List Int)), RunO l → RunO (l.flatMap threeO)
  | [], h => h.elim
  | [a], h => by
    have h1 : incO a = none := h
    show RunO [1 :: a, 2 :: a, 3 :: a]
    refine ⟨rfl, rfl, ?_⟩
    show incO (3 :: a) = none
    simp [incO, h1]
  | a :: b :: l, h => by
    have ih := runO_three (b :: l) h.2
    have e : (a :: b :: l).flatMap threeO = (1 :: a) :: (2 :: a) :: (3 :: a) :: (1 :: b) :: (2 :: b) :: (3 :: b) :: l.flatMap threeO := rfl
    have e2 : (b :: l).flatMap threeO = (1 :: b) :: (2 :: b) :: (3 :: b) :: l.flatMap threeO := rfl
    rw [e2] at ih
    rw [e]
    refine ⟨rfl, rfl, ?_, ih⟩
    simp [incO, h.1]
theorem runO_all : ∀ n, RunO (allO n)
  | 0 => rfl
  | n + 1 => runO_three _ (runO_all n)
theorem runO_at : ∀ (A : List (List Int)) (c : List Int) (B : List (List Int)), RunO (A ++ c :: B) → (incO c = none ∧ B = []) ∨ ∃ b B', B = b :: B' ∧ incO c = some b
  | [], _, [], h => .inl ⟨h, rfl⟩
  | [], _, b :: B, h => .inr ⟨b, B, rfl, h.1⟩
  | [_], c, B, h => runO_at [] c B h.2
  | _ :: a' :: A, c, B, h => runO_at (a' :: A) c B h.2
theorem allO_head (n : Nat) : ∃ B, allO n = List.replicate n 1 :: B := by
  induction n with
  | zero => exact ⟨[], rfl⟩
  | succ n ih =>
    obtain ⟨B, hB⟩ := ih
    refine ⟨(2 :: List.replicate n 1) :: (3 :: List.replicate n 1) :: B.flatMap threeO, ?_⟩
    show (allO n).flatMap threeO = _
    rw [hB]; rfl
theorem allO_mem (n : Nat) : ∀ s, s ∈ allO n ↔ s.length = n ∧ ∀ x ∈ s, 1 ≤ x ∧ x ≤ 3 := by
  induction n with
  | zero =>
    intro s
    show s ∈ [[]] ↔ _
    rw [List.mem_singleton]
    constructor
    · rintro rfl; exact ⟨rfl, fun x hx => by cases hx⟩
    · rintro ⟨h, -⟩; exact List.eq_nil_of_length_eq_zero h
  | succ n ih =>
    intro s
    show s ∈ (allO n).flatMap threeO ↔ _
    rw [List.mem_flatMap]
    constructor
    · rintro ⟨r, hr, hs⟩
      obtain ⟨h1, h2⟩ := (ih r).1 hr
      unfold threeO at hs
      simp only [List.mem_cons, List.not_mem_nil, or_false] at hs
      rcases hs with rfl | rfl | rfl
      all_goals
        refine ⟨by rw [List.length_cons, h1], fun x hx => ?_⟩
        rcases List.mem_cons.1 hx with rfl | hx
        · omega
        · exact h2 x hx
    · rintro ⟨h1, h2⟩
      cases s with
      | nil => cases h1
      | cons x r =>
        refine ⟨r, (ih r).2 ⟨by rw [List.length_cons] at h1; omega, fun y hy => h2 y (List.mem_cons_of_mem _ hy)⟩, ?_⟩
        have := h2 x (by simp)
        unfold threeO
        simp only [List.mem_cons, List.not_mem_nil, or_false]
        rcases show x = 1 ∨ x = 2 ∨ x = 3 by omega with rfl | rfl | rfl
        · exact .inl rfl
        · exact .inr (.inl rfl)
        · exact .inr (.inr rfl)
/-- the carry: the first i digits were 3 -/
theorem incO_drop {c : List Int} : ∀ (i : Nat), i ≤ c.length → (∀ j, j < i → nthI c j = 3) → incO c = (incO (c.drop i)).map (List.replicate i 1 ++ ·) := by
  intro i
  induction i with
  | zero => intro _ _; simp
  | succ i ih =>
    intro hi h
    rw [ih (by omega) (fun j hj => h j (by omega)), List.drop_eq_getElem_cons (show i < c.length by omega)]
    have h3 := h i (by omega)
    rw [nthI_get (by omega)] at h3
    rw [h3]
    simp only [incO, if_true, Option.map_map]
    congr 1
    funext s
    simp [List.replicate_succ']
theorem incO_some {c : List Int} {i : Nat} (hi : i < c.length) (h : ∀ j, j < i → nthI c j = 3) (hn : nthI c i ≠ 3) : incO c = some (List.replicate i 1 ++ (nthI c i + 1) :: c.drop (i + 1)) := by
  rw [incO_drop i (by omega) h, List.drop_eq_getElem_cons hi, ← nthI_get hi]
  simp [incO, hn]
theorem incO_none {c : List Int} (h : ∀ j, j < c.length → nthI c j = 3) : incO c = none := by
  rw [incO_drop c.length (Nat.le_refl _) h, List.drop_length]; rfl
end Go.Proofs.Ythlnfjbedehjdaa
/- All completions as an iterator. -/
namespace Go.Proofs.Ythlnfjbedehjdaa
open Go.RowKit Go.Deep Go.Shelf

attribute [local go_sem] Oper.semAt_some
set_option maxRecDepth 20000 in
theorem repeat0_any (w : World) (ad : Addr) (c n : Nat) (u : Value) (hn0 : n = 0) : Calls Try.prog 97 #[.slice (some ad) 1 c, .int .i64 n] w (RepW w n u) := by
  have hmk := fun W => makeNils n (by omega) W
  have M1 := Lib.hid (mul1 n (by omega) w)
  have hn : n ≤ 4096 := by omega
  have HN0 := Lib.hid hn0
  clear hn0
  go_enter Try.func97, Try.ntmps97
  go_wp2_with fail
  refine M1.out.mono ?_
  rintro e w' ⟨rfl, rfl⟩
  go_wp2_with (with_reducible refine wpList_copy_splice rfl _ _ 22 22 rfl 3 Try.underlying22 (by kernel_rfl) _ (some ad) n n 1 c rfl rfl w.heap.size 0 (nils n) 3 ?hg [] ?hn ?hpos ?hfit ?h1 w.heap.size w ?hbel ?hBg ?_)
  case hg => rw [heap_alloc_if, if_pos rfl]
  case hn => rw [HN0.out]; rfl
  case hfit => simp
  case h1 => intro v hv; simp at hv
  case hbel => exact (Below.refl _ _).alloc (by omega) _
  case hBg => omega
  intro w3 hk3 hb3
  have hk4 : w3.heap[w.heap.size]? = some (.cells (List.replicate n u).toArray 3 (0, 0)) := by rw [hk3, HN0.out]; rfl
  have HK4 := Lib.hid hk4
  clear hk3 hk4
  have h0n : ¬ (0 : Int) < (n : Int) := by rw [HN0.out]; omega
  go_wp2_with fail
  go_loopw [8] (fun i wr => i = .int .i64 0 ∧ w3 = wr) (fun _ _ => 0)
  case atStart => exact ⟨by simp, rfl⟩
  case round =>
    obtain ⟨rfl, rfl⟩ := hrel
    go_wp2_with fail
    go_ret
    exact ⟨rfl, HK4.out, hb3⟩
theorem repeatN_any (w : World) (ad : Addr) (c n : Nat) (u : Value) (hn : n ≤ 4096) (hc : w.cell? ad = some u) (hu : u.oneCell' = true) : Calls Try.prog 97 #[.slice (some ad) 1 c, .int .i64 n] w (RepW w n u) := by
  rcases Nat.eq_zero_or_pos n with h | h
  · exact repeat0_any w ad c n u h
  · exact repeat_any w ad c n u h hn hc hu
/-- the row of outcomes, in a block that is never moved -/
def OutW (W : World) (g n : Nat) (c : List Int) : Prop := c.length = n ∧ W.heap[g]? = some (.cells (c.map i64v).toArray 3 (0, 0))
theorem OutW.cell {W : World} {g n : Nat} {c : List Int} (h : OutW W g n c) {i : Nat} (hi : i < n) : W.cell? ⟨g, i, none⟩ = some (.int .i64 (nthI c i)) := by
  refine cell_of h.2 ?_
  rw [List.getElem?_toArray, List.getElem?_map, List.getElem?_eq_getElem (by rw [h.1]; exact hi), nthI_get (by rw [h.1]; exact hi)]
  rfl
theorem OutW.set {W : World} {g n : Nat} {c : List Int} (h : OutW W g n c) (i : Nat) (x : Int) : OutW (W.setCell ⟨g, i, none⟩ (.int .i64 x)) g n (c.set i x) := by
  refine ⟨by rw [List.length_set]; exact h.1, ?_⟩
  rw [Blk_set h.2]
  simp [i64v]
theorem OutW.ints {W : World} {g n : Nat} {c : List Int} (h : OutW W g n c) (hn : n ≤ 9223372036854775807) {M : Nat → Prop} (hM : M g) : IsInts W M (.slice (some ⟨g, 0, none⟩) n n) c := by
  refine ⟨some ⟨g, 0, none⟩, n, by rw [h.1], by rw [h.1]; exact Nat.le_refl _, hn, fun _ => ⟨g, 0, rfl, hM, fun i j hi hj => ?_⟩⟩
  obtain rfl : j = 0 := by omega
  have := h.cell (i := i) (by rw [← h.1]; exact hi)
  simpa [nthI] using this
set_option maxRecDepth 20000 in
set_option maxHeartbeats 4000000 in
theorem compl1_seq (nf bR n : Nat) (X : Nat → Prop) (oA : Option Addr) (oc : Nat) (w : World) (hR4 : w.cell? ⟨bR, 4, none⟩ = some (.slice oA n oc)) (hX : ∀ b, X b → b < w.heap.size) (hn : n ≤ 4096) :
    SeqRT nf Try.prog 96 #[.pointer (some ⟨bR, 0, none⟩)] encS (RSy X (allO n)) (KC X) (fun xs => xs.map Sy.set = allO n) w := by
  intro l J Jx W hW hJb hXb hY h0
  have bRl := lt_of_cell hR4
  have r4 := (hW.cell (p := ⟨bR, 4, none⟩) bRl).trans hR4
  have HY := Lib.hid hY
  have HJB := Lib.hid hJb
  have HW := Lib.hid hW
  have H0 := Lib.hid h0
  have hbw : bR < W.heap.size := Nat.lt_of_lt_of_le bRl hW.size
  clear hY hJb hXb hR4 hW h0
  show Calls Try.prog 96 #[.func (.yield l) #[] #[], .pointer (some ⟨bR, 0, none⟩)] W _
  go_enter Try.func96, Try.ntmps96
  go_wp2_with fail
  refine nameW fun W1 hW1 => ?_
  have hb1 : Below W.heap.size W W1 := by rw [hW1.out]; exact (Below.refl _ _).alloc (Nat.le_refl _) _
  have c1 : W1.cell? ⟨W.heap.size, 0, none⟩ = some (.int .i64 1) := by rw [hW1.out]; exact cell_of (heap_alloc_new _ _) rfl
  have HB1 := Lib.hid hb1
  refine (repeatN_any W1 ⟨W.heap.size, 0, none⟩ 1 n (.int .i64 1) hn c1 rfl).mono ?_
  rintro e W2 ⟨rfl, hk, hb⟩
  obtain ⟨g, hg⟩ : ∃ g, g = W1.heap.size := ⟨_, rfl⟩
  rw [← hg] at hk ⊢
  have hgw : w.heap.size ≤ g := by have := HW.out.size; have := hb1.size; omega
  have hgW : W.heap.size ≤ g := by have := hb1.size; omega
  have HO2 := Lib.hid (show OutW W2 g n (List.replicate n 1) from ⟨by simp, by rw [hk]; simp [i64v]⟩)
  have HB2 := Lib.hid (hb1.trans (hb.mono hb1.size))
  obtain ⟨B, hB⟩ := allO_head n
  have HJ2 := Lib.hid (HJB.out [] W W2 H0.out HB2.out)
  have HL := Lib.hid hB
  have HXg := Lib.hid (show ¬ X g from fun h => by have := hX _ h; omega)
  clear hW1 hb1 c1 hk hb hg hB HB1 r4
  go_wp2_with fail
  go_loopg [4] ((allO n).length) (fun gk _ wr => ∃ (pre : List Sy) (c : List Int) (rest : List (List Int)), gk = rest.length + 1 ∧ Hid (allO n = pre.map Sy.set ++ c :: rest) ∧ Hid (J pre wr) ∧ Hid (OutW wr g n c))
  case atStart => exact ⟨[], _, B, by rw [HL.out]; rfl, Lib.hid HL.out, HJ2, HO2⟩
  case round =>
    obtain ⟨pre, c, rest, hgk, HE, HJ, HO⟩ := hrel
    rename World => wo
    clear HJ2 HO2 HL HB2
    have hmem := (allO_mem n c).1 (by rw [HE.out]; simp)
    have HMEM := Lib.hid hmem
    have HRUN := Lib.hid (runO_at (pre.map Sy.set) c rest (by rw [← HE.out]; exact runO_all n))
    obtain ⟨fn, tmps, assign, body, hy, hR⟩ := HY.out pre ⟨.slice (some ⟨g, 0, none⟩) n n, c⟩ wo HJ.out ⟨⟨rest, HE.out⟩, HO.out.ints (by omega) HXg.out⟩
    simp only [encS] at hy
    clear hmem
    refine wpIn_wide (n := nf) |>.1 ?_
    gi_wp2
    refine ⟨fun h => (by cases h), hR.mono ?_⟩
    rintro e W3 (⟨rfl, hJ3, hk3⟩ | ⟨rfl, hx3, hk3⟩)
    rotate_left 1
    · gi_wp2
      go_wp2_with fail
      try rw [Exit.noGoto_ret]
      refine bodyPost_ret (results_none rfl _ _ _) rfl ?_
      exact ⟨⟨_, rfl⟩, .inr hx3⟩
    have HJ3 := Lib.hid hJ3
    have HO3 := Lib.hid (show OutW W3 g n c from ⟨HO.out.1, hk3.keep g _ HO.out.2 rfl HXg.out⟩)
    clear hy hR hJ3 hk3 HO HJ
    gi_wp2
    refine (wpIn_wide (n := nf)).2 ?_
    go_loopg [4] (n) (fun gk2 s4 wi => ∃ i : Nat, i ≤ n ∧ gk2 = n - i ∧ s4 = .int .i64 (i : Int) ∧ Hid (∀ j, j < i → nthI c j = 3) ∧ Hid (OutW wi g n (List.replicate i 1 ++ c.drop i)) ∧ Hid (J (pre ++ [(⟨.slice (some ⟨g, 0, none⟩) n n, c⟩ : Sy)]) wi))
    case atStart => exact ⟨0, Nat.zero_le _, by omega, rfl, Lib.hid fun j hj => absurd hj (by omega), Lib.hid (by simpa using HO3.out), HJ3⟩
    case round =>
      obtain ⟨i, hi, hgk2, rfl, HT, HOi, HJi⟩ := hrel
      by_cases hlt : i < n
      · have hcl := HMEM.out.1
        have hx := HOi.out.cell hlt
        have hx2 : nthI (List.replicate i 1 ++ c.drop i) i = nthI c i := by
          unfold nthI
          rw [List.getD_eq_getElem?_getD, List.getElem?_append_right (by simp), List.length_replicate, Nat.sub_self, List.getElem?_drop, List.getD_eq_getElem?_getD, Nat.add_zero]
        rw [hx2] at hx
        have hbd := HMEM.out.2 (nthI c i) (by rw [nthI_get (by omega)]; exact List.getElem_mem _)
        have hset : ∀ y : Int, (List.replicate i 1 ++ c.drop i).set i y = List.replicate i 1 ++ y :: c.drop (i + 1) := fun y => by
          rw [List.set_append_right _ _ (by simp), List.length_replicate, Nat.sub_self, List.drop_eq_getElem_cons (by omega)]
          rfl
        have HSET := Lib.hid hset
        obtain ⟨y, hyE⟩ : ∃ y, y = nthI c i := ⟨_, rfl⟩
        rw [← hyE] at hx hbd
        have HYE := Lib.hid hyE
        obtain ⟨hy1, hy3⟩ := hbd
        have hi0 : (0 : Int) ≤ (i : Int) := by omega
        have hi1 : (i : Int) < (n : Int) := by omega
        have hiN : (n : Int) ≤ 4096 := by omega
        have f0 : wr.frozen? ⟨g, i, none⟩ = false := by simp [World.frozen?, HOi.out.2]
        clear hset hx2 hcl hyE
        by_cases h3 : y = 3
        · have d3 : (y == 3) = true := by rw [beq_iff_eq]; exact h3
          have HT2 := Lib.hid (show ∀ j, j < i + 1 → nthI c j = 3 from fun j hj => by
            rcases Nat.lt_or_ge j i with h | h
            · exact HT.out j h
            · rw [show j = i by omega, ← HYE.out]; exact h3)
          have HO2 := Lib.hid (show OutW (wr.setCell ⟨g, i, none⟩ (.int .i64 1)) g n (List.replicate (i + 1) 1 ++ c.drop (i + 1)) by
            have := HOi.out.set i 1
            rw [HSET.out 1] at this
            rw [List.replicate_succ', List.append_assoc]
            exact this)
          have HJ4 := Lib.hid (HJB.out _ _ (wr.setCell ⟨g, i, none⟩ (.int .i64 1)) HJi.out ((Below.refl _ _).setCell (by show W.heap.size ≤ g; exact hgW) _))
          clear h3 HYE
          go_wp2_with fail
          go_roundg (n - (i + 1))
          case measure => omega
          case rel => exact ⟨i + 1, by omega, rfl, by go_num, HT2, HO2, HJ4⟩
        · have d3 : (y == 3) = false := by rw [beq_eq_false_iff_ne]; exact h3
          have d4 : ((i : Int) == (n : Int)) = false := by rw [beq_eq_false_iff_ne]; omega
          have hinc := incO_some (c := c) (i := i) (by have := HMEM.out.1; omega) HT.out (by rw [← HYE.out]; exact h3)
          rcases HRUN.out with ⟨h5, -⟩ | ⟨b, B', hB', hb'⟩
          · rw [hinc] at h5; cases h5
          rw [hinc] at hb'
          have hb2 : List.replicate i 1 ++ (nthI c i + 1) :: c.drop (i + 1) = b := by injection hb'
          rw [← HYE.out] at hb2
          have HO2 := Lib.hid (show OutW (wr.setCell ⟨g, i, none⟩ (.int .i64 (y + 1))) g n b by
            have := HOi.out.set i (y + 1)
            rw [HSET.out (y + 1), hb2] at this
            exact this)
          have HJ4 := Lib.hid (HJB.out _ _ (wr.setCell ⟨g, i, none⟩ (.int .i64 (y + 1))) HJi.out ((Below.refl _ _).setCell (by show W.heap.size ≤ g; exact hgW) _))
          have HE2 := Lib.hid (show allO n = (pre ++ [(⟨.slice (some ⟨g, 0, none⟩) n n, c⟩ : Sy)]).map Sy.set ++ b :: B' by rw [HE.out, hB']; simp)
          have hlen : rest.length = B'.length + 1 := by rw [hB']; rfl
          clear h3 HYE hinc hb' hb2 hB'
          go_wp2_with fail
          refine (wpIn_wide (n := nf)).2 ?_
          go_wp2_with fail
          go_roundg (B'.length + 1)
          case measure => omega
          case rel => exact ⟨_, b, B', rfl, HE2, HJ4, HO2⟩
      · obtain rfl : i = n := by omega
        have hnl : ¬ (i : Int) < (i : Int) := by omega
        have d4 : ((i : Int) == (i : Int)) = true := by rw [beq_iff_eq]
        have hnone := incO_none (c := c) (fun j hj => HT.out j (by have := HMEM.out.1; omega))
        rcases HRUN.out with ⟨-, h5⟩ | ⟨b, B', hB', hb'⟩
        rotate_left 1
        · rw [hnone] at hb'; cases hb'
        have HE2 := Lib.hid (show (pre ++ [(⟨.slice (some ⟨g, 0, none⟩) i i, c⟩ : Sy)]).map Sy.set = allO i by rw [HE.out, h5]; simp)
        clear hnone h5
        go_wp2_with fail
        refine (wpIn_wide (n := nf)).2 ?_
        go_wp2_with fail
        try rw [Exit.noGoto_ret]
        refine bodyPost_ret (results_none rfl _ _ _) rfl ?_
        exact ⟨⟨_, rfl⟩, .inl ⟨_, HE2.out, HJi.out⟩⟩
end Go.Proofs.Ythlnfjbedehjdaa
