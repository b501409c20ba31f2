import Derived.Test.YtbkgkgigcohbpaaM6
namespace Go.Proofs.Ytbkgkgigcohbpaa
open Go.RowKit
/-- a slice just laid -/
theorem sl_new (w : World) (cs : Array Value) (t : TypeId) (f : Nat → Value) (n : Nat) (h63 : n ≤ 9223372036854775807) (hf : ∀ i, i < n → cs[i]? = some (f i)) : IsSl (w.alloc (.cells cs t)) (fun b => w.heap.size ≤ b) 1 (.slice (some ⟨w.heap.size, 0, none⟩) n n) n (fun i _ => f i) := by
  refine ⟨_, _, rfl, Nat.le_refl _, h63, fun _ => ⟨w.heap.size, 0, rfl, Nat.le_refl _, fun i j hi hj => ?_⟩⟩
  obtain rfl : j = 0 := by omega
  refine cell_of (cs := cs) (t := t) (by rw [heap_alloc_if, if_pos rfl]) ?_
  rw [Nat.zero_add, Nat.mul_one, Nat.add_zero]
  exact hf i hi
theorem ints3 (w : World) : IsInts (w.alloc (.cells #[.int .i64 0, .int .i64 2, .int .i64 1] 3)) (fun b => w.heap.size ≤ b) (.slice (some ⟨w.heap.size, 0, none⟩) 3 3) [0, 2, 1] :=
  sl_new w _ _ (fun i => .int .i64 (([0, 2, 1] : List Int).getD i 0)) 3 (by decide) (fun i hi => by
    match i, hi with
    | 0, _ => rfl
    | 1, _ => rfl
    | 2, _ => rfl)
theorem ints1 (w : World) : IsInts (w.alloc (.cells #[.int .i64 1] 3)) (fun b => w.heap.size ≤ b) (.slice (some ⟨w.heap.size, 0, none⟩) 1 1) [1] :=
  sl_new w _ _ (fun i => .int .i64 (([1] : List Int).getD i 0)) 1 (by decide) (fun i hi => by
    match i, hi with
    | 0, _ => rfl)
theorem row2 (w : World) (x y : Nat) : IsNs (w.alloc (.cells #[.int .u64 (x : Int), .int .u64 (y : Int)] 28)) (fun b => w.heap.size ≤ b) (.slice (some ⟨w.heap.size, 0, none⟩) 2 2) [x, y] :=
  sl_new w _ _ (fun i => .int .u64 ((([x, y] : List Nat).getD i 0 : Nat) : Int)) 2 (by decide) (fun i hi => by
    match i, hi with
    | 0, _ => rfl
    | 1, _ => rfl)
theorem tab2 (w : World) (s1 s2 : Value) (r1 r2 : List Nat) (M : Nat → Prop) (h1 : IsNs w M s1 r1) (h2 : IsNs w M s2 r2) : IsTab (w.alloc (.cells #[s1, s2] 37)) (fun b => M b ∨ w.heap.size ≤ b) (.slice (some ⟨w.heap.size, 0, none⟩) 2 2) [r1, r2] := by
  have hb : Below w.heap.size w (w.alloc (.cells #[s1, s2] 37)) := (Below.refl _ _).alloc (Nat.le_refl _) _
  refine ⟨fun i => if i = 0 then s1 else s2, ?_, fun r hr => ?_⟩
  · exact IsSl.mono (sl_new w #[s1, s2] 37 (fun i => if i = 0 then s1 else s2) 2 (by decide) (fun i hi => by
      match i, hi with
      | 0, _ => rfl
      | 1, _ => rfl)) (fun b _ h => .inr h) (by decide)
  · match r, hr with
    | 0, _ => exact IsSl.mono (h1.below hb) (fun b _ h => .inl h) (by decide)
    | 1, _ => exact IsSl.mono (h2.below hb) (fun b _ h => .inl h) (by decide)
theorem edge1 (w : World) : IsEdges (w.alloc (.cells #[.int .i64 0, .int .i64 100] 47)) (fun b => w.heap.size ≤ b) (.slice (some ⟨w.heap.size, 0, none⟩) 1 1) [(0, 100)] := by
  refine ⟨_, _, rfl, Nat.le_refl _, (by decide), fun _ => ⟨w.heap.size, 0, rfl, Nat.le_refl _, fun i j hi hj => ?_⟩⟩
  obtain rfl : i = 0 := by simpa using hi
  refine cell_of (cs := #[.int .i64 0, .int .i64 100]) (t := 47) (by rw [heap_alloc_if, if_pos rfl]) ?_
  match j, hj with
  | 0, _ => rfl
  | 1, _ => rfl
theorem IsDraw.tt {w : World} {M : Nat → Prop} {v : Value} {d : DrawD} (h : IsDraw w M v d) : IsDraw w (fun _ => True) v d := by
  obtain ⟨v1, v2, v3, e, h1, h2, h3⟩ := h
  exact ⟨v1, v2, v3, e, IsSl.mono h1 (fun _ _ _ => trivial) (by decide), IsSl.mono h2 (fun _ _ _ => trivial) (by decide), IsSl.mono h3 (fun _ _ _ => trivial) (by decide)⟩
theorem IsInts.tt {w : World} {M : Nat → Prop} {v : Value} {l : List Int} (h : IsInts w M v l) : IsInts w (fun _ => True) v l := IsSl.mono h (fun _ _ _ => trivial) (by decide)
set_option maxHeartbeats 4000000 in
set_option maxRecDepth 8000 in
theorem sane_any (w : World) : Calls Try.prog 9 #[] w fun e w' => e = .returned (.bool true) ∧ Below w.heap.size w w' := by
  have CP3 : ∀ W, Hid (Calls Try.prog 27 #[.int .i64 3] W fun e w' => ∃ v, e = .returned v ∧ IsDraw w' (fun b => W.heap.size ≤ b) v (plainD 3) ∧ Below W.heap.size W w') := fun W => plain_any W 3 (by omega)
  have CP16 : ∀ W, Hid (Calls Try.prog 27 #[.int .i64 16] W fun e w' => ∃ v, e = .returned v ∧ IsDraw w' (fun b => W.heap.size ≤ b) v (plainD 16) ∧ Below W.heap.size W w') := fun W => plain_any W 16 (by omega)
  have CP2 : ∀ W, Hid (Calls Try.prog 27 #[.int .i64 2] W fun e w' => ∃ v, e = .returned v ∧ IsDraw w' (fun b => W.heap.size ≤ b) v (plainD 2) ∧ Below W.heap.size W w') := fun W => plain_any W 2 (by omega)
  have CP1 : ∀ W, Hid (Calls Try.prog 27 #[.int .i64 1] W fun e w' => ∃ v, e = .returned v ∧ IsDraw w' (fun b => W.heap.size ≤ b) v (plainD 1) ∧ Below W.heap.size W w') := fun W => plain_any W 1 (by omega)
  have CC3 : ∀ W M v, IsDraw W M v (plainD 3) → Hid (Calls Try.prog 11 #[v] W fun e w' => e = .returned (.tuple #[.int .u64 6, .int .i64 0]) ∧ Below W.heap.size W w') := fun W M v h => by have := count_any W M v _ h; rw [count3] at this; exact this
  have CC16 : ∀ W M v, IsDraw W M v (plainD 16) → Hid (Calls Try.prog 11 #[v] W fun e w' => e = .returned (.tuple #[.int .u64 20922789888000, .int .i64 0]) ∧ Below W.heap.size W w') := fun W M v h => by have := count_any W M v _ h; rw [count16] at this; exact this
  have CO3 : ∀ W M v, IsDraw W M v (plainD 3) → Hid (Calls Try.prog 18 #[v, .int .u64 1] W fun e w' => ∃ v', e = .returned (.tuple #[v', .int .i64 0]) ∧ IsInts w' (fun b => W.heap.size ≤ b) v' [0, 2, 1] ∧ Below W.heap.size W w') := fun W M v h => by have := outcome_any W M v _ h 1; rw [outcome3] at this; exact this
  have CN3 : ∀ W M M' v vp, IsDraw W M v (plainD 3) → IsInts W M' vp [0, 2, 1] → Hid (Calls Try.prog 21 #[v, vp] W fun e w' => e = .returned (.tuple #[.int .u64 1, .int .i64 0]) ∧ Below W.heap.size W w') := fun W M M' v vp h h' => by have := number_any W _ v vp _ _ h.tt h'.tt; rw [number3] at this; exact this
  have CH2 : ∀ W M v, IsDraw W M v twoD → Hid (Calls Try.prog 13 #[v] W fun e w' => ∃ v', e = .returned (.tuple #[v', .int .i64 0]) ∧ IsTab w' (fun b => W.heap.size ≤ b) v' [[0, 1], [1, 0]] ∧ Below W.heap.size W w') := fun W M v h => by have := chances_any W M v _ h; rw [chances2] at this; exact this
  have CC1 : ∀ W M v, IsDraw W M v oneD → Hid (Calls Try.prog 11 #[v] W fun e w' => e = .returned (.tuple #[.int .u64 0, .int .i64 0]) ∧ Below W.heap.size W w') := fun W M v h => by have := count_any W M v _ h; rw [count1] at this; exact this
  have CO1 : ∀ W M v, IsDraw W M v oneD → Hid (Calls Try.prog 18 #[v, .int .u64 0] W fun e w' => ∃ v', e = .returned (.tuple #[v', .int .i64 261]) ∧ IsInts w' (fun b => W.heap.size ≤ b) v' [] ∧ Below W.heap.size W w') := fun W M v h => by have := outcome_any W M v _ h 0; rw [outcome1] at this; exact this
  go_enter Try.func9, Try.ntmps9
  go_wp2_with fail
  refine (CP3 _).out.mono ?_
  rintro e w1 ⟨v1, rfl, h1, hb1⟩
  have HB := Lib.hid hb1
  have H1 := Lib.hid h1
  clear h1 hb1
  go_wp2_with fail
  refine (CC3 _ _ _ H1.out).out.mono ?_
  rintro e w2 ⟨rfl, hb2⟩
  replace HB := Lib.hid (HB.out.trans (hb2.mono HB.out.size))
  clear hb2 H1
  go_wp2_with fail
  refine (CP16 _).out.mono ?_
  rintro e w3 ⟨v3, rfl, h3, hb3⟩
  replace HB := Lib.hid (HB.out.trans (hb3.mono HB.out.size))
  have H3 := Lib.hid h3
  clear h3 hb3
  go_wp2_with fail
  refine (CC16 _ _ _ H3.out).out.mono ?_
  rintro e w4 ⟨rfl, hb4⟩
  replace HB := Lib.hid (HB.out.trans (hb4.mono HB.out.size))
  clear hb4 H3
  go_wp2_with fail
  refine (CP3 _).out.mono ?_
  rintro e w5 ⟨v5, rfl, h5, hb5⟩
  replace HB := Lib.hid (HB.out.trans (hb5.mono HB.out.size))
  have H5 := Lib.hid h5
  clear h5 hb5
  go_wp2_with fail
  refine (CO3 _ _ _ H5.out).out.mono ?_
  rintro e w6 ⟨v6, rfl, h6, hb6⟩
  replace HB := Lib.hid (HB.out.trans (hb6.mono HB.out.size))
  have H6 := Lib.hid h6
  clear h6 hb6 H5
  go_wp2_with fail
  refine (CP3 _).out.mono ?_
  rintro e w7 ⟨v7, rfl, h7, hb7⟩
  replace HB := Lib.hid (HB.out.trans (hb7.mono HB.out.size))
  replace H6 := Lib.hid (IsSl.below H6.out hb7)
  have H7 := Lib.hid h7
  clear h7 hb7
  go_wp2_with fail
  refine nameW fun W8 hW8 => ?_
  have hb8 : Below w7.heap.size w7 W8 := by rw [hW8.out]; exact (Below.refl _ _).alloc (Nat.le_refl _) _
  have hi8 : IsInts W8 (fun b => w7.heap.size ≤ b) (.slice (some ⟨w7.heap.size, 0, none⟩) 3 3) [0, 2, 1] := by rw [hW8.out]; exact ints3 w7
  refine (CN3 _ _ _ _ _ (H7.out.below hb8) hi8).out.mono ?_
  rintro e w9 ⟨rfl, hb9⟩
  replace HB := Lib.hid (HB.out.trans ((hb8.trans (hb9.mono hb8.size)).mono HB.out.size))
  replace H6 := Lib.hid (IsSl.below H6.out (hb8.trans (hb9.mono hb8.size)))
  clear hb8 hi8 hW8 hb9 H7
  go_wp2_with fail
  refine (CP2 _).out.mono ?_
  rintro e w10 ⟨v10, rfl, h10, hb10⟩
  replace HB := Lib.hid (HB.out.trans (hb10.mono HB.out.size))
  replace H6 := Lib.hid (IsSl.below H6.out hb10)
  obtain ⟨x1, x2, x3, rfl, p1, p2, p3⟩ := h10
  obtain ⟨X1, y1, rfl, -⟩ := id p1
  obtain ⟨X2, y2, rfl, -⟩ := id p2
  obtain ⟨X3, y3, rfl, -⟩ := id p3
  have P1 := Lib.hid p1
  have P2 := Lib.hid p2
  clear p1 p2 p3 hb10
  go_wp2_with fail
  refine nameW fun W11 hW11 => ?_
  have hb11 : Below w10.heap.size w10 W11 := by rw [hW11.out]; exact ((Below.refl _ _).alloc (Nat.le_refl _) _).alloc (by simp) _
  have he11 : IsEdges W11 (fun _ => True) (.slice (some ⟨w10.heap.size + 1, 0, none⟩) 1 1) [(0, 100)] := by
    rw [hW11.out]
    have := edge1 (w10.alloc (.cells #[.slice X1 (plainD 2).first.length y1, .slice X2 (plainD 2).second.length y2, .slice (some ⟨w10.heap.size + 1, 0, none⟩) 1 1] 25))
    rw [World.size_alloc] at this
    exact IsSl.mono this (fun _ _ _ => trivial) (by decide)
  have hd11 : IsDraw W11 (fun _ => True) (.agg #[.slice X1 (plainD 2).first.length y1, .slice X2 (plainD 2).second.length y2, .slice (some ⟨w10.heap.size + 1, 0, none⟩) 1 1]) twoD :=
    ⟨_, _, _, rfl, IsSl.mono (IsSl.below P1.out hb11) (fun _ _ _ => trivial) (by decide), IsSl.mono (IsSl.below P2.out hb11) (fun _ _ _ => trivial) (by decide), he11⟩
  refine (CH2 _ _ _ hd11).out.mono ?_
  rintro e w12 ⟨v12, rfl, h12, hb12⟩
  replace HB := Lib.hid (HB.out.trans ((hb11.trans (hb12.mono hb11.size)).mono HB.out.size))
  replace H6 := Lib.hid (IsSl.below H6.out (hb11.trans (hb12.mono hb11.size)))
  have H12 := Lib.hid h12
  clear h12 hb11 hb12 he11 hd11 hW11 P1 P2
  go_wp2_with fail
  refine (CP1 _).out.mono ?_
  rintro e w13 ⟨v13, rfl, h13, hb13⟩
  replace HB := Lib.hid (HB.out.trans (hb13.mono HB.out.size))
  replace H6 := Lib.hid (IsSl.below H6.out hb13)
  replace H12 := Lib.hid (IsTab.below H12.out hb13)
  obtain ⟨x4, x5, x6, rfl, p1, p2, p3⟩ := h13
  obtain ⟨X4, y4, rfl, -⟩ := id p1
  obtain ⟨X5, y5, rfl, -⟩ := id p2
  obtain ⟨X6, y6, rfl, -⟩ := id p3
  have P1 := Lib.hid p1
  have P2 := Lib.hid p2
  clear p1 p2 p3 hb13
  go_wp2_with fail
  refine nameW fun W14 hW14 => ?_
  have hb14 : Below w13.heap.size w13 W14 := by rw [hW14.out]; exact ((Below.refl _ _).alloc (Nat.le_refl _) _).alloc (by simp) _
  have he14 : IsEdges W14 (fun _ => True) (.slice (some ⟨w13.heap.size + 1, 0, none⟩) 1 1) [(0, 100)] := by
    rw [hW14.out]
    have := edge1 (w13.alloc (.cells #[.slice X4 (plainD 1).first.length y4, .slice X5 (plainD 1).second.length y5, .slice (some ⟨w13.heap.size + 1, 0, none⟩) 1 1] 25))
    rw [World.size_alloc] at this
    exact IsSl.mono this (fun _ _ _ => trivial) (by decide)
  have hd14 : IsDraw W14 (fun _ => True) (.agg #[.slice X4 (plainD 1).first.length y4, .slice X5 (plainD 1).second.length y5, .slice (some ⟨w13.heap.size + 1, 0, none⟩) 1 1]) oneD :=
    ⟨_, _, _, rfl, IsSl.mono (IsSl.below P1.out hb14) (fun _ _ _ => trivial) (by decide), IsSl.mono (IsSl.below P2.out hb14) (fun _ _ _ => trivial) (by decide), he14⟩
  have hbx : W14.heap[w13.heap.size]? = some (.cells #[.slice X4 (plainD 1).first.length y4, .slice X5 (plainD 1).second.length y5, .slice (some ⟨w13.heap.size + 1, 0, none⟩) 1 1] 25 (0, 0)) := by
    rw [hW14.out]
    simp only [heap_alloc_if, World.size_alloc]
    rw [if_neg (by omega), if_pos trivial]
  refine (CC1 _ _ _ hd14).out.mono ?_
  rintro e w15 ⟨rfl, hb15⟩
  have hby := (hb15.block w13.heap.size (lt_heap hbx)).trans hbx
  have j0 := cell_of (j := 0) hby rfl
  have j1 := cell_of (j := 1) hby rfl
  have j2 := cell_of (j := 2) hby rfl
  replace HB := Lib.hid (HB.out.trans ((hb14.trans (hb15.mono hb14.size)).mono HB.out.size))
  replace H6 := Lib.hid (IsSl.below H6.out (hb14.trans (hb15.mono hb14.size)))
  replace H12 := Lib.hid (IsTab.below H12.out (hb14.trans (hb15.mono hb14.size)))
  have HD := Lib.hid (hd14.below hb15)
  clear hb14 hb15 he14 hd14 hW14 P1 P2 hbx hby
  go_wp2_with fail
  refine (CO1 _ _ _ HD.out).out.mono ?_
  rintro e w16 ⟨v16, rfl, h16, hb16⟩
  replace HB := Lib.hid (HB.out.trans (hb16.mono HB.out.size))
  replace H6 := Lib.hid (IsSl.below H6.out hb16)
  replace H12 := Lib.hid (IsTab.below H12.out hb16)
  clear h16 hb16 HD j0 j1 j2
  go_wp2_with fail
  refine nameW fun W17 hW17 => ?_
  have hb17 : Below w16.heap.size w16 W17 := by rw [hW17.out]; exact (Below.refl _ _).alloc (Nat.le_refl _) _
  have hi17 : IsInts W17 (fun b => w16.heap.size ≤ b) (.slice (some ⟨w16.heap.size, 0, none⟩) 3 3) [0, 2, 1] := by rw [hW17.out]; exact ints3 w16
  have CS := same_any W17 _ _ _ _ _ _ (IsSl.below H6.out hb17) hi17
  rw [show decide (([0, 2, 1] : List Int) = [0, 2, 1]) = true from rfl] at CS
  refine CS.mono ?_
  rintro e w18 ⟨rfl, hd18⟩
  have hb18 := hb17.trans (hd18.below.mono hb17.size)
  replace HB := Lib.hid (HB.out.trans (hb18.mono HB.out.size))
  replace H12 := Lib.hid (IsTab.below H12.out hb18)
  clear hb17 hb18 hi17 CS hd18 hW17 H6
  go_wp2_with fail
  refine nameW fun W19 hW19 => ?_
  have hb19 : Below w18.heap.size w18 W19 := by rw [hW19.out]; exact (((Below.refl _ _).alloc (Nat.le_refl _) _).alloc (by simp) _).alloc (by simp; omega) _
  have ht19 : IsTab W19 (fun _ => True) (.slice (some ⟨w18.heap.size + 1 + 1, 0, none⟩) 2 2) [[0, 1], [1, 0]] := by
    have r1 := row2 w18 0 1
    have r2 := row2 (w18.alloc (.cells #[.int .u64 0, .int .u64 1] 28)) 1 0
    have r1' := IsNs.below r1 ((Below.refl _ _).alloc (Nat.le_refl _) (.cells #[.int .u64 1, .int .u64 0] 28))
    rw [World.size_alloc] at r2
    have := tab2 ((w18.alloc (.cells #[.int .u64 0, .int .u64 1] 28)).alloc (.cells #[.int .u64 1, .int .u64 0] 28)) _ _ _ _ (fun _ => True) (IsSl.mono r1' (fun _ _ _ => trivial) (by decide)) (IsSl.mono r2 (fun _ _ _ => trivial) (by decide))
    rw [World.size_alloc, World.size_alloc] at this
    rw [hW19.out]
    exact this.mono (fun _ _ _ => trivial)
  have CT := sameCh_any W19 _ _ _ _ _ _ (IsTab.below H12.out hb19) ht19
  rw [show decide (([[0, 1], [1, 0]] : List (List Nat)) = [[0, 1], [1, 0]]) = true from rfl] at CT
  refine CT.mono ?_
  rintro e w20 ⟨rfl, hd20⟩
  have hb20 := hb19.trans (hd20.below.mono hb19.size)
  replace HB := Lib.hid (HB.out.trans (hb20.mono HB.out.size))
  clear hb19 hb20 ht19 CT hd20 hW19 H12
  go_wp2_with fail
  refine nameW fun W21 hW21 => ?_
  have hb21 : Below w20.heap.size w20 W21 := by rw [hW21.out]; exact (Below.refl _ _).alloc (Nat.le_refl _) _
  have hd21 : IsDraw W21 (fun b => w20.heap.size ≤ b) (.agg #[.slice (some ⟨w20.heap.size, 0, none⟩) 1 1, .slice none 0 0, .slice none 0 0]) ⟨[1], [], []⟩ := by
    rw [hW21.out]
    exact ⟨_, _, _, rfl, ints1 w20, IsSl.nil, IsSl.nil⟩
  have CQ := check_any W21 _ _ _ hd21
  rw [check1] at CQ
  refine CQ.mono ?_
  rintro e w22 ⟨rfl, hb22⟩
  have hb23 := hb21.trans (hb22.mono hb21.size)
  replace HB := Lib.hid (HB.out.trans (hb23.mono HB.out.size))
  clear hb21 hb22 hb23 hd21 CQ hW21
  go_wp2_with fail
  go_ret
  exact ⟨rfl, HB.out⟩
end Go.Proofs.Ytbkgkgigcohbpaa
