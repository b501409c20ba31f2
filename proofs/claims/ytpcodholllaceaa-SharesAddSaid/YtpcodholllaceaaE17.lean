import Derived.Test.YtpcodholllaceaaE16
namespace Go.Proofs.Ytpcodholllaceaa
open Go.RowKit Go.Shelf

/-- the first shares after k -/
def fstTo (l : List (Nat × Nat)) (T k : Nat) : List (Nat × Nat) := firstD (l.take k) T
/-- the places of the first k shares -/
def seenT (l : List (Nat × Nat)) (k : Nat) (y : Int) : Bool := (l.take k).any fun s => decide ((s.1 : Int) = y)
theorem fstTo_succ {l : List (Nat × Nat)} {T k : Nat} (hk : k < l.length) : fstTo l T (k + 1) = firstStep T (fstTo l T k) l[k] := by
  unfold fstTo firstD; rw [List.take_succ_eq_append_getElem hk, List.foldl_append]; rfl
theorem fstTo_len (l : List (Nat × Nat)) (T : Nat) : ∀ k, (fstTo l T k).length ≤ T ∧ (fstTo l T k).length ≤ k
  | 0 => by simp [fstTo, firstD]
  | k + 1 => by
    rcases Nat.lt_or_ge k l.length with hk | hk
    · rw [fstTo_succ hk]
      have ih := fstTo_len l T k
      unfold firstStep
      split
      · simp; omega
      · omega
    · have e : fstTo l T (k + 1) = fstTo l T k := by unfold fstTo; rw [List.take_of_length_le (by omega), List.take_of_length_le hk]
      rw [e]
      have ih := fstTo_len l T k
      omega
theorem fstTo_mem {l : List (Nat × Nat)} {T : Nat} : ∀ k, ∀ s ∈ fstTo l T k, s ∈ l
  | 0, s, h => by simp [fstTo, firstD] at h
  | k + 1, s, h => by
    rcases Nat.lt_or_ge k l.length with hk | hk
    · rw [fstTo_succ hk] at h
      unfold firstStep at h
      split at h
      · rcases List.mem_append.1 h with h | h
        · exact fstTo_mem k s h
        · rw [List.mem_singleton] at h; rw [h]; exact List.getElem_mem hk
      · exact fstTo_mem k s h
    · have e : fstTo l T (k + 1) = fstTo l T k := by unfold fstTo; rw [List.take_of_length_le (by omega), List.take_of_length_le hk]
      rw [e] at h
      exact fstTo_mem k s h
theorem seenT_succ {l : List (Nat × Nat)} {k : Nat} (hk : k < l.length) : updS (seenT l k) ((l[k].1 : Nat) : Int) true = seenT l (k + 1) := by
  funext y
  unfold updS seenT
  rw [List.take_succ_eq_append_getElem hk, List.any_append, List.any_cons, List.any_nil, Bool.or_false]
  by_cases e : y = ((l[k].1 : Nat) : Int)
  · rw [if_pos e, decide_eq_true e.symm, Bool.or_true]
  · rw [if_neg e, decide_eq_false (fun h => e h.symm), Bool.or_false]
theorem seen_fst {l : List (Nat × Nat)} {T : Nat} : ∀ k, k ≤ l.length → (fstTo l T k).length < T → ∀ x : Nat, (fstTo l T k).any (fun u => u.1 == x) = seenT l k (x : Int)
  | 0, _, _, x => by simp [fstTo, firstD, seenT]
  | k + 1, hk, hl, x => by
    have hk' : k < l.length := hk
    rw [← seenT_succ hk']
    rw [fstTo_succ hk'] at hl ⊢
    have hlt : (fstTo l T k).length < T := by
      unfold firstStep at hl
      split at hl
      · simp at hl; omega
      · exact hl
    have ih := seen_fst (l := l) (T := T) k (by omega) hlt
    have key : (firstStep T (fstTo l T k) l[k]).any (fun u => u.1 == x) = ((fstTo l T k).any (fun u => u.1 == x) || (l[k].1 == x)) := by
      unfold firstStep
      by_cases ha : (fstTo l T k).any (fun u => u.1 == l[k].1) = false
      · rw [if_pos ⟨ha, hlt⟩, List.any_append]; simp
      · rw [if_neg (fun h => ha h.1)]
        by_cases e : l[k].1 = x
        · rw [← e]; simp at ha ⊢; exact ha
        · have : (l[k].1 == x) = false := by simpa using e
          rw [this, Bool.or_false]
    rw [key, ih x]
    unfold updS
    by_cases e : (x : Int) = ((l[k].1 : Nat) : Int)
    · have e' : l[k].1 = x := by omega
      rw [if_pos e, e']; simp
    · have e' : ¬ l[k].1 = x := by omega
      have : (l[k].1 == x) = false := by simpa using e'
      rw [if_neg e, this, Bool.or_false]
theorem step_same {l : List (Nat × Nat)} {T k : Nat} (hk : k < l.length) (h : seenT l k ((l[k].1 : Nat) : Int) = true ∨ T ≤ (fstTo l T k).length) : fstTo l T (k + 1) = fstTo l T k := by
  rw [fstTo_succ hk]
  unfold firstStep
  rw [if_neg]
  rintro ⟨h1, h2⟩
  rcases h with h | h
  · rw [seen_fst k (by omega) h2, h] at h1; cases h1
  · omega
theorem step_add {l : List (Nat × Nat)} {T k : Nat} (hk : k < l.length) (h : seenT l k ((l[k].1 : Nat) : Int) = false) (h2 : (fstTo l T k).length < T) : fstTo l T (k + 1) = fstTo l T k ++ [l[k]] := by
  rw [fstTo_succ hk]
  unfold firstStep
  rw [if_pos ⟨by rw [seen_fst k (by omega) h2]; exact h, h2⟩]
/-- a number and a code -/
def NumE (w : World) (r : Nat × Int) (e : Ending) (w' : World) : Prop := e = .returned (.tuple #[.int .u64 (r.1 : Int), .int .i64 r.2]) ∧ Below w.heap.size w w'
theorem Try.zeroBool (w : World) : (zeroValue 4).run Try.prog w = .ok (.bool false) w := by kernel_rfl
theorem joinD_out {l : List (Nat × Nat)} {t : Int} (h : ¬ (1 ≤ t ∧ t ≤ 24)) : joinD l t = (0, 230) := by
  unfold joinD; rw [if_neg (fun hh => h hh.1)]
theorem joinD_bad {l : List (Nat × Nat)} {t : Int} (h : l.all shOk = false) : joinD l t = (0, 230) := by
  unfold joinD; rw [if_neg (fun hh => by rw [h] at hh; cases hh.2)]
theorem range_any' {α : Type} (l : List α) (z : α) (p : α → Bool) : (List.range l.length).any (fun i => p (l.getD i z)) = l.any p := range_any l z p
theorem any_not {α : Type} (ok : α → Bool) (l : List α) : (l.any fun x => !ok x) = !l.all ok := by
  induction l with
  | nil => rfl
  | cons a r ih => simp only [List.any_cons, List.all_cons, Bool.not_and, ih]
/-- Join's first question -/
theorem joinAsk_any (w : World) (M : Nat → Prop) (A : Option Addr) (c : Nat) (l : List (Nat × Nat)) (h : IsShs w M (.slice A l.length c) l) (hlen : l.length ≤ 140737488355328) :
    Calls Try.prog 43 #[.slice A l.length c, .func (.func 44) #[] #[]] w fun e w' => e = .returned (.bool (!l.all shOk)) ∧ Below w.heap.size w w' := by
  obtain ⟨A', c', e', h1, h2, h3⟩ := h
  cases e'
  have C := containsFunc2_any w M A l.length c _ hlen h3 44 #[] (fun i => !shOk (l.getD i (0, 0))) (enters_of Try.func44 (by kernel_rfl) rfl) (fun i hi wr hwr => join1_any (l.getD i (0, 0)).1 (l.getD i (0, 0)).2 wr)
  rw [range_any' l (0, 0) (fun s => !shOk s), any_not] at C
  exact C
/-- Join's second question -/
theorem joinAsk2_any (w : World) (M : Nat → Prop) (A : Option Addr) (c : Nat) (l : List (Nat × Nat)) (h : IsShs w M (.slice A l.length c) l) (hlen : l.length ≤ 140737488355328) (M' : Nat → Prop) (g : Nat) (v : Value) (f : List (Nat × Nat)) (hg : w.cell? ⟨g, 0, none⟩ = some v) (hf : IsShs w M' v f) (hq : ShQ f) (hql : ShQ l) :
    Calls Try.prog 43 #[.slice A l.length c, .func (.func 45) #[] #[.pointer (some ⟨g, 0, none⟩)]] w fun e w' => e = .returned (.bool (l.any fun s => neN (atD f s.1) s.2)) ∧ Below w.heap.size w w' := by
  obtain ⟨A', c', e', h1, h2, h3⟩ := h
  cases e'
  have hgl : g < w.heap.size := lt_of_cell hg
  have C := containsFunc2_any w M A l.length c _ hlen h3 45 #[.pointer (some ⟨g, 0, none⟩)] (fun i => neN (atD f (l.getD i (0, 0)).1) (l.getD i (0, 0)).2) (enters_of Try.func45 (by kernel_rfl) rfl) (fun i hi wr hwr => join2_any wr M' g v f ((hwr.cell (p := ⟨g, 0, none⟩) hgl).trans hg) (hf.below hwr) hq (l.getD i (0, 0)).1 (l.getD i (0, 0)).2 (hql.getD i).1)
  rw [range_any' l (0, 0) (fun s => neN (atD f s.1) s.2)] at C
  exact C
theorem joinD_yes {l : List (Nat × Nat)} {T : Nat} (t1 : 1 ≤ T) (t2 : T ≤ 24) (h : l.all shOk = true) : joinD l (T : Int) = if (firstD l T).length < T ∨ (l.any fun s => neN (atD (firstD l T) s.1) s.2) = true then (0, 230) else (atD (firstD l T) 0, 0) := by
  unfold joinD
  rw [if_pos ⟨⟨by omega, by omega⟩, h⟩, Int.toNat_natCast]
  have e : (l.any fun s => neN (atD (firstD l T) s.1) s.2) = !(l.all fun s => atD (firstD l T) s.1 == s.2) := by
    rw [← any_not]
    congr 1
    funext s
    unfold neN
    rw [Bool.eq_iff_iff]
    simp
    omega
  rw [e]
  congr 1
  simp
theorem fstTo_all (l : List (Nat × Nat)) (T : Nat) : fstTo l T l.length = firstD l T := by unfold fstTo; rw [List.take_length]
set_option maxRecDepth 100000 in
set_option maxHeartbeats 2000000 in
theorem join_go (w : World) (M : Nat → Prop) (v : Value) (l : List (Nat × Nat)) (h : IsShs w M v l) (hlen : l.length ≤ 8796093022208) (T : Nat) (t1 : 1 ≤ T) (t2 : T ≤ 24) (hall : l.all shOk = true) :
    Calls Try.prog 22 #[v, .int .i64 (T : Int)] w (NumE w (joinD l (T : Int))) := by
  have H := Lib.hid h
  have hql : ShQ l := fun s hs => by
    have := shOk_lt (List.all_eq_true.1 hall s hs)
    exact ⟨Nat.lt_of_le_of_lt this.2.1 (by decide), this.2.2⟩
  have hq64 : Hid (∀ s ∈ l, s.1 < 18446744073709551616) := fun s hs => Nat.lt_trans (hql s hs).1 (by decide)
  have HQL := Lib.hid hql
  have HALL := Lib.hid hall
  obtain ⟨A, c, rfl, h1, h2, -⟩ := h
  have C1 := fun W (hB : Below w.heap.size w W) => Lib.hid (joinAsk_any W M A c l (H.out.below hB) (by omega))
  rw [hall] at C1
  have b1 : decide ((T : Int) < 1) = false := by simp; omega
  have b2 : decide ((24 : Int) < (T : Int)) = false := by simp; omega
  have hmm := @run_makeMap Try.prog
  clear hql hall
  go_enter Try.func22, Try.ntmps22
  go_wp2_with fail
  refine (C1 _ (Below.refl _ _)).out.mono ?_
  rintro e w1 ⟨rfl, hb1⟩
  have HB1 := Lib.hid hb1
  clear hb1
  go_wp2_with fail
  obtain ⟨W2, hW2⟩ : ∃ W2, W2 = (w1.alloc (.map #[] 0)).alloc (.cells #[.slice none 0 0] 28) := ⟨_, rfl⟩
  have hz2 : W2.heap.size = w1.heap.size + 2 := by rw [hW2]; simp
  have hS2 : Hid (SetB Try.prog 22 4 .u64 W2 w1.heap.size 0 (seenT l 0)) := by rw [hW2]; exact (SetB.made w1).alloc _
  have hG2 : Hid (W2.heap[w1.heap.size + 1]? = some (.cells #[.slice none 0 0] 28 (0, 0))) := by rw [hW2]; show _ = _; simp only [heap_alloc_if, World.size_alloc]; rw [if_pos trivial]
  have HB2 : Hid (Below w.heap.size w W2) := by rw [hW2]; exact (HB1.out.alloc HB1.out.size _).alloc (by have := HB1.out.size; simp; omega) _
  rw [← hW2]
  have hwg : w.heap.size ≤ w1.heap.size := HB1.out.size
  generalize w1.heap.size = g at hS2 hG2 hz2 hwg ⊢
  clear hW2 hmm
  go_loopw [23] (fun i wr => ∃ (k : Nat) (v : Value), k ≤ l.length ∧ i = .int .i64 k ∧ Hid (wr.heap[g + 1]? = some (.cells #[v] 28 (0, 0))) ∧ Hid (SetB Try.prog 22 4 .u64 wr g k (seenT l k)) ∧ Hid (wr.ownsRow w.heap.size 36 2 v (fstTo l T k).length (rowS (fstTo l T k))) ∧ Hid (Below w.heap.size w wr)) (fun i _ => l.length - (intOf i).toNat)
  case atStart => exact ⟨0, _, Nat.zero_le _, rfl, hG2, hS2, Lib.hid (own_nil _ _ _ _), HB2⟩
  case round =>
    obtain ⟨k, v, hk, rfl, HG, HS, HO, HB⟩ := hrel
    by_cases hlt : k < l.length
    · obtain ⟨b, off, rfl, hbl, hck, hck1⟩ := H.out.at_ HB.out hlt
      have hlt' : (k : Int) < (l.length : Int) := by omega
      have HU := Lib.hid (seenT_succ hlt)
      have HSAME := Lib.hid (step_same (T := T) hlt)
      have HADD := Lib.hid (step_add (T := T) hlt)
      have HX := Lib.hid (hq64.out _ (List.getElem_mem hlt))
      have HLS := Lib.hid (show l[k] = (l[k].1, l[k].2) from rfl)
      generalize l[k] = s at hck hck1 HU HSAME HADD HX HLS
      obtain ⟨X, Y⟩ := s
      dsimp only at hck hck1
      have hwf : (Lit.int .u64 (X : Int)).wf = true := by have := HX.out; simp [Lit.wf, IntKind.min, IntKind.max, IntKind.signed, IntKind.bits]; omega
      have HWF := Lib.hid hwf
      have hbr : b < wr.heap.size := Nat.lt_of_lt_of_le hbl HB.out.size
      have hgr : g + 1 < wr.heap.size := lt_heap HG.out
      obtain ⟨A1, c1, rfl⟩ := own_slice HO.out
      have hg1 := cell_of (j := 0) HG.out rfl
      have fg1 := frozen_of (j := 0) HG.out
      have hS1 := Lib.hid (HS.out.alloc (.cells #[.int .u64 (X : Int), .int .u64 (Y : Int)] 36))
      have HLK := Lib.hid (fstTo_len l T k)
      have hlk : (fstTo l T k).length ≤ 24 := by have := HLK.out; omega
      clear hwf
      by_cases hsb : seenT l k (X : Int) = true
      · have HSB := Lib.hid hsb
        go_wp2_with (first | (at_lookup; refine wpList_lookup_set (w := _) rfl _ _ 62 rfl Try.underlying22 Try.underlying62 Try.underlying4 (Try.zeroBool _) rfl hS1.out _ rfl HWF.out ?_) | (at_mapUpdate; refine wpList_update_set (w := _) rfl _ _ _ 62 rfl Try.underlying22 Try.underlying62 Try.underlying4 rfl hS1.out (by unfold maxLen; omega) _ rfl HWF.out true rfl ?_; intro w8 hs8 hg8))
        have HW1 : Hid (Below wr.heap.size wr (wr.alloc (.cells #[.int .u64 (X : Int), .int .u64 (Y : Int)] 36))) := (Below.refl _ _).alloc (Nat.le_refl _) _
        have HG8 := Lib.hid ((hg8.block (g + 1) (by simp; omega) (by simp)).trans ((HW1.out.block (g + 1) hgr).trans HG.out))
        have HO8 := Lib.hid ((HO.out.alloc _).kept hg8 (.inr (own_ne (HO.out.alloc _) hS1.out.heap.choose_spec.choose_spec (fun _ _ h => by cases h))))
        have HB8 := Lib.hid ((HB.out.alloc HB.out.size (.cells #[.int .u64 (X : Int), .int .u64 (Y : Int)] 36)).grown hg8 (by have := HB.out.size; simp; omega) (fun k e => by cases e; exact hwg))
        have HS8 : Hid (SetB Try.prog 22 4 .u64 w8 g (k + 1) (seenT l (k + 1))) := by rw [← HU.out]; exact hs8
        clear hs8 hg8
        go_wp2_with fail
        go_roundw
        case rel => exact ⟨k + 1, _, by omega, by go_num, HG8, HS8, Lib.hid (by rw [HSAME.out (.inl HSB.out)]; exact HO8.out), HB8⟩
        case measure => simp [intOf]; omega

      · have hsb : seenT l k (X : Int) = false := by simpa using hsb
        have HSB := Lib.hid hsb
        by_cases hfl : (fstTo l T k).length < T
        · have hfl' : ((fstTo l T k).length : Int) < (T : Int) := by omega
          have HA := Lib.hid (HADD.out hsb hfl)
          have MS := Lib.hid (rowS_snoc (fstTo l T k) (X, Y))
          obtain ⟨iu, hiu, hz0, hz1, hz3⟩ := info_parts Try.info_sh
          have HIU := Lib.hid (And.intro hiu (And.intro hz0 (And.intro hz1 hz3)))
          clear hiu hz0 hz1 hz3
          go_wp2_with (first | (at_lookup; refine wpList_lookup_set (w := _) rfl _ _ 62 rfl Try.underlying22 Try.underlying62 Try.underlying4 (Try.zeroBool _) rfl hS1.out _ rfl HWF.out ?_) | (at_builtin; refine wpList_append_cells _ rfl _ _ 28 rfl w.heap.size 36 iu (.agg #[.int .u64 0, .int .u64 0]) 2 16 Try.underlying28 HIU.out.1 HIU.out.2.1 HIU.out.2.2.1 HIU.out.2.2.2 rfl (by decide) _ (fstTo l T k).length _ rfl ((HO.out.alloc _).alloc _) (some ⟨wr.heap.size + 1, 0, none⟩) 1 1 [u64v X, u64v Y] rfl rfl ?c1 ?c2 ?c3 ?c4 ?c5 ?_))
          case c1 => first | exact fun _ _ h => h | exact fun _ => ⟨_, rfl, by have hh := cell_two_new (wr.alloc (.cells #[.int .u64 (X : Int), .int .u64 (Y : Int)] 36)) (u64v X) (u64v Y) 36; rw [World.size_alloc] at hh; exact hh⟩
          case c2 => first | exact ⟨rfl, rfl⟩ | exact two_u64 _ _
          case c3 => unfold maxLen; omega
          case c4 => omega
          case c5 => have := HB.out.size; simp; omega
          intro v7 w7 hown7 hgrow7 _
          obtain ⟨A7, c7, rfl⟩ := own_slice hown7
          rw [MS.out] at hown7
          have hPre : Below wr.heap.size wr ((wr.alloc (.cells #[.int .u64 (X : Int), .int .u64 (Y : Int)] 36)).alloc (.cells #[.int .u64 (X : Int), .int .u64 (Y : Int)] 36)) := ((Below.refl _ _).alloc (Nat.le_refl _) _).alloc (by simp) _
          have hHG := (hPre.block (g + 1) hgr).trans HG.out
          have hs0 : ((wr.alloc (.cells #[.int .u64 (X : Int), .int .u64 (Y : Int)] 36)).alloc (.cells #[.int .u64 (X : Int), .int .u64 (Y : Int)] 36)).heap[wr.heap.size]? = some (.cells #[.int .u64 (X : Int), .int .u64 (Y : Int)] 36 (0, 0)) := (by simp only [heap_alloc_if, World.size_alloc]; repeat (first | rw [if_pos trivial] | rw [if_pos (by omega)] | rw [if_neg (by omega)]))
          have hown0 := (HO.out.alloc (.cells #[.int .u64 (X : Int), .int .u64 (Y : Int)] 36)).alloc (.cells #[.int .u64 (X : Int), .int .u64 (Y : Int)] 36)
          have hset0 := hS1.out.alloc (.cells #[.int .u64 (X : Int), .int .u64 (Y : Int)] 36)
          have hG7 := (hgrow7.block (g + 1) (lt_heap hHG) (fun e => own_ne hown0 hHG (by intro cs z e; cases e) e.symm)).trans hHG
          have hS7 := hset0.kept hgrow7 (fun e => own_ne hown0 hset0.heap.choose_spec.choose_spec (fun _ _ h => by cases h) e.symm)
          have hbx7 : w7.heap[wr.heap.size]? = some (.cells #[.int .u64 (X : Int), .int .u64 (Y : Int)] 36 (0, 0)) := by
            refine (hgrow7.block wr.heap.size (lt_heap hs0) (fun e => ?_)).trans hs0
            have := HO.out.lt _ e.symm
            omega
          have HB7 := Lib.hid (((HB.out.alloc HB.out.size _).alloc (by have := HB.out.size; simp; omega) _).grown hgrow7 (by have := HB.out.size; simp; omega) (own_base HO.out))
          have g7 := cell_of (j := 0) hG7 rfl
          have fg7 := frozen_of (j := 0) hG7
          have x7 := cell_of (j := 0) hbx7 rfl
          have HG7 := Lib.hid hG7
          have HO7 := Lib.hid hown7
          have hne7 := own_ne hown7 hG7 (by intro cs z e; cases e)
          have HS7 := Lib.hid (hS7.set (g := g + 1) (by omega) 0 (.slice A7 ((fstTo l T k).length + 1) c7))
          have HO7s := Lib.hid (ownsRow_setCell_other hown7 (a := ⟨g + 1, 0, none⟩) hne7 (.slice A7 ((fstTo l T k).length + 1) c7))
          clear hown7 hgrow7 hPre hHG hs0 hown0 hset0 hG7 hS7 hbx7 hne7 hck hck1 hg1 fg1
          go_wp2_with (at_mapUpdate; refine wpList_update_set (w := _) rfl _ _ _ 62 rfl Try.underlying22 Try.underlying62 Try.underlying4 rfl HS7.out (by unfold maxLen; omega) _ rfl HWF.out true rfl ?_; intro w8 hs8 hg8)
          have hGs : (w7.setCell ⟨g + 1, 0, none⟩ (.slice A7 ((fstTo l T k).length + 1) c7)).heap[g + 1]? = some (.cells #[.slice A7 ((fstTo l T k).length + 1) c7] 28 (0, 0)) := by rw [heap_set_if, if_pos rfl, HG7.out]; rfl
          have HG8 := Lib.hid ((hg8.block (g + 1) (lt_heap hGs) (by simp)).trans hGs)
          have HO8 := Lib.hid (HO7s.out.kept hg8 (.inr (own_ne HO7s.out HS7.out.heap.choose_spec.choose_spec (fun _ _ h => by cases h))))
          have HB8 := Lib.hid ((HB7.out.setCell (p := ⟨g + 1, 0, none⟩) (by dsimp only; omega) (.slice A7 ((fstTo l T k).length + 1) c7)).grown hg8 (by have := HB7.out.size; simp [World.setCell]; omega) (fun k e => by cases e; exact hwg))
          have HS8 : Hid (SetB Try.prog 22 4 .u64 w8 g (k + 1) (seenT l (k + 1))) := by rw [← HU.out]; exact hs8
          clear hs8 hg8 hGs
          go_wp2_with fail
          go_roundw
          case rel => exact ⟨k + 1, _, by omega, by go_num, HG8, HS8, Lib.hid (by rw [HA.out, List.length_append]; exact HO8.out), HB8⟩
          case measure => simp [intOf]; omega
        · have hfl' : ¬ ((fstTo l T k).length : Int) < (T : Int) := by omega
          have HFL := Lib.hid (show T ≤ (fstTo l T k).length by omega)
          go_wp2_with (first | (at_lookup; refine wpList_lookup_set (w := _) rfl _ _ 62 rfl Try.underlying22 Try.underlying62 Try.underlying4 (Try.zeroBool _) rfl hS1.out _ rfl HWF.out ?_) | (at_mapUpdate; refine wpList_update_set (w := _) rfl _ _ _ 62 rfl Try.underlying22 Try.underlying62 Try.underlying4 rfl hS1.out (by unfold maxLen; omega) _ rfl HWF.out true rfl ?_; intro w8 hs8 hg8))
          have HW1 : Hid (Below wr.heap.size wr (wr.alloc (.cells #[.int .u64 (X : Int), .int .u64 (Y : Int)] 36))) := (Below.refl _ _).alloc (Nat.le_refl _) _
          have HG8 := Lib.hid ((hg8.block (g + 1) (by simp; omega) (by simp)).trans ((HW1.out.block (g + 1) hgr).trans HG.out))
          have HO8 := Lib.hid ((HO.out.alloc _).kept hg8 (.inr (own_ne (HO.out.alloc _) hS1.out.heap.choose_spec.choose_spec (fun _ _ h => by cases h))))
          have HB8 := Lib.hid ((HB.out.alloc HB.out.size (.cells #[.int .u64 (X : Int), .int .u64 (Y : Int)] 36)).grown hg8 (by have := HB.out.size; simp; omega) (fun k e => by cases e; exact hwg))
          have HS8 : Hid (SetB Try.prog 22 4 .u64 w8 g (k + 1) (seenT l (k + 1))) := by rw [← HU.out]; exact hs8
          clear hs8 hg8
          go_wp2_with fail
          go_roundw
          case rel => exact ⟨k + 1, _, by omega, by go_num, HG8, HS8, Lib.hid (by rw [HSAME.out (.inr HFL.out)]; exact HO8.out), HB8⟩
          case measure => simp [intOf]; omega

    · have hnl : ¬ (k : Int) < (l.length : Int) := by omega
      obtain rfl : k = l.length := by omega
      rw [fstTo_all] at HO
      obtain ⟨A1, c1, rfl⟩ := own_slice HO.out
      have hg1 := cell_of (j := 0) HG.out rfl
      have hfm : ∀ s ∈ firstD l T, s ∈ l := fun s hs => fstTo_mem (T := T) l.length s (by rw [fstTo_all]; exact hs)
      have HF := Lib.hid (IsShs.ofOwn HO.out)
      have HQF : Hid (ShQ (firstD l T)) := fun s hs => HQL.out s (hfm s hs)
      have HJ := Lib.hid (joinD_yes t1 t2 HALL.out)
      clear hfm
      by_cases hfl : (firstD l T).length < T
      · have hfl' : ((firstD l T).length : Int) < (T : Int) := by omega
        have HFL := Lib.hid hfl
        go_wp2_with fail
        go_ret2
        exact ⟨by rw [HJ.out, if_pos (.inl HFL.out)]; rfl, HB.out⟩
      · have hfl' : ¬ ((firstD l T).length : Int) < (T : Int) := by omega
        have HFL := Lib.hid hfl
        have C2 := Lib.hid (joinAsk2_any wr M A c l (H.out.below HB.out) (by omega) _ (g + 1) _ (firstD l T) hg1 HF.out HQF.out HQL.out)
        have C3 := fun W (hB : Below wr.heap.size wr W) => Lib.hid (at_any W _ _ (firstD l T) (HF.out.below hB) HQF.out 0 (by decide))
        have hgr : g + 1 < wr.heap.size := lt_heap HG.out
        obtain ⟨sb, hsb⟩ : ∃ sb, (l.any fun s => neN (atD (firstD l T) s.1) s.2) = sb := ⟨_, rfl⟩
        rw [hsb] at C2
        have HSB := Lib.hid hsb
        clear hsb
        cases sb with
        | true =>
          go_wp2_with fail
          refine C2.out.mono ?_
          rintro e w3 ⟨rfl, hb3⟩
          have HB3 := Lib.hid (HB.out.trans (hb3.mono HB.out.size))
          clear hb3 hg1
          go_wp2_with fail
          go_ret2
          exact ⟨by rw [HJ.out, if_pos (.inr HSB.out)]; rfl, HB3.out⟩
        | false =>
          go_wp2_with fail
          refine C2.out.mono ?_
          rintro e w3 ⟨rfl, hb3⟩
          have HB3 := Lib.hid (HB.out.trans (hb3.mono HB.out.size))
          have hg3 := (hb3.cell (p := ⟨g + 1, 0, none⟩) hgr).trans hg1
          have HBB := Lib.hid hb3
          clear hb3 hg1
          go_wp2_with fail
          refine (C3 _ HBB.out).out.mono ?_
          rintro e w4 ⟨rfl, hb4⟩
          have HB4 := Lib.hid (HB3.out.trans (hb4.mono HB3.out.size))
          clear hb4 hg3
          go_wp2_with fail
          go_ret2
          exact ⟨by rw [HJ.out, if_neg (fun h => h.elim HFL.out (fun h => by rw [HSB.out] at h; cases h))]; rfl, HB4.out⟩
end Go.Proofs.Ytpcodholllaceaa
