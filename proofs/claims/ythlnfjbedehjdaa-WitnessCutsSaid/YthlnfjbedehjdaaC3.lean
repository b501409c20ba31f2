/- The sets of rivals: the recursive closure. -/
import Derived.Test.YthlnfjbedehjdaaZd
import Derived.WalkMore
import Derived.Shelf.RegionOpen
import Derived.RegionIn
namespace Go.Proofs.Ythlnfjbedehjdaa
open Go.RowKit Go.Deep Go.Shelf

attribute [local go_sem] Oper.semAt_some
theorem KC.alloc {X : Nat → Prop} {A B : World} (h : KC X A B) (o : Obj) : KC X A (B.alloc o) := h.below ((Below.refl _ _).alloc (Nat.le_refl _) _)
/-- the rest of a slice of ints, as the program cuts it off -/
theorem IsInts.cutOff {w : World} {M : Nat → Prop} {b off n c : Nat} {xs : List Int} (h : IsInts w M (.slice (some ⟨b, off, none⟩) n c) xs) (k : Nat) (hk : k ≤ n) :
    IsInts w M (.slice (if c = k then some ⟨b, off, none⟩ else some ⟨b, off + k, none⟩) (n - k) (c - k)) (xs.drop k) := by
  obtain ⟨A', c', e, h1, h2, h3⟩ := h
  obtain ⟨rfl, hn, rfl⟩ := Value.slice.inj e
  subst hn
  refine ⟨_, _, by rw [List.length_drop], by rw [List.length_drop]; omega, by omega, fun hlt => ?_⟩
  rw [List.length_drop] at hlt
  obtain ⟨b2, off2, e, hb, hc⟩ := h3 (by omega)
  injection e with e
  injection e with e e'
  subst e e'
  rw [if_neg (by omega)]
  refine ⟨b, off + k, rfl, hb, fun i j hi hj => ?_⟩
  rw [List.length_drop] at hi
  refine Eq.trans ?_ ((hc (k + i) j (by omega) hj).trans ?_)
  · congr 2; omega
  · simp [List.getD_eq_getElem?_getD, List.getElem?_drop]
theorem IsInts.clip {w : World} {M : Nat → Prop} {A : Option Addr} {n c : Nat} {xs : List Int} (h : IsInts w M (.slice A n c) xs) : IsInts w M (.slice A n n) xs := by
  obtain ⟨A', c', e, h1, h2, h3⟩ := h
  obtain ⟨rfl, hn, rfl⟩ := Value.slice.inj e
  exact ⟨A, n, by rw [hn], by rw [hn]; exact Nat.le_refl _, by omega, h3⟩
/-- an append onto a slice without room -/
theorem step_grow1 {ops : Array Oper} {o : Oper} {a : Act} {w : World} {K : Act → World → Prop} {Q : Exit → Act → World → Prop} {E : Prop} (hw : Region.wanted o (yielded ops a.tmps) = true) (s x : Operand)
    (hop : o.op = .call { callee := .builtin .append, args := #[s, x], argTypes := #[22, 22] }) {M : Nat → Prop} {A : Option Addr} {n : Nat} (set : List Int) (hs : a.eval s = .slice A n n) (hset : IsInts w M (.slice A n n) set)
    (y : Int) {b : Nat} {t : TypeId} (hx : a.eval x = .slice (some ⟨b, 0, none⟩) 1 1) (hb : w.heap[b]? = some (.cells #[.int .i64 y] t (0, 0))) (h24 : n ≤ 1000)
    (hK : ∀ A' d w', Hid (IsInts w' (fun k => w.heap.size ≤ k) (.slice A' (n + 1) d) (set ++ [y])) → Hid (Below w.heap.size w w') → K (a.put o.dst (.slice A' (n + 1) d)) w') :
    if Region.wanted o (yielded ops a.tmps) = true then Oper.wp Try.prog o a w K Q else E := by
  rw [if_pos hw]
  obtain ⟨i, hi, hz, hsz, hby⟩ := info_parts Try.infoI64
  have hn : n = set.length := by obtain ⟨A', c', e, -⟩ := hset; exact (Value.slice.inj e).2.1
  have hc1 : ∀ j u, [i64v y][j]? = some u → w.cell? ((⟨b, 0, none⟩ : Addr).add j) = some u := fun j u hj => by
    have hj0 : j = 0 := by have := (List.getElem?_eq_some_iff.1 hj).1; simp at this; exact this
    subst hj0
    simp at hj
    subst hj
    rw [addr_add]
    exact cell_of hb rfl
  have fin : ∀ v' w', w'.ownsRow w.heap.size 3 1 v' (n + 1) (set.map i64v ++ [i64v y]) → w.grownBy w' none → K (a.put o.dst v') w' := fun v' w' r1 r2 => by
    obtain ⟨A', d, rfl⟩ := own_sl r1
    refine hK A' d w' (Lib.hid ?_) (Lib.hid ((Below.refl _ w).grown r2 (Nat.le_refl _) (fun k e => by cases e)))
    have h2 := r1
    rw [show set.map i64v ++ [i64v y] = (set ++ [y]).map i64v by rw [List.map_append]; rfl, show n + 1 = (set ++ [y]).length by rw [List.length_append, hn]; rfl] at h2
    have := IsInts.ofOwn h2
    rw [show n + 1 = (set ++ [y]).length by rw [List.length_append, hn]; rfl]
    exact this
  cases A with
  | some ad =>
    obtain ⟨v', w', hrun, r1, r2⟩ := run_append_arg_grows (P := Try.prog) w 22 o.type 3 i (.int .i64 0) 1 8 Try.underlying22 hi hz hsz hby rfl (by decide) ad n n (set.map i64v) (by simp [hn]) (fun j u hj => by
      have hj' : j < set.length := by have := (List.getElem?_eq_some_iff.1 hj).1; simpa using this
      obtain ⟨b', off', e, -, hc⟩ := hset.at_ (Below.refl _ _) hj'
      cases e
      rw [addr_add, hc, nthI_get hj']
      rw [List.getElem?_map, List.getElem?_eq_getElem hj'] at hj
      exact hj) ⟨b, 0, none⟩ 1 1 [i64v y] rfl hc1 (by omega) (by unfold maxLen; omega) (by omega)
    unfold Oper.wp
    simp [execOp, hop, resolve, invoke, builtin, hs, hx, hrun, Result.andThen]
    exact fin v' w' r1 r2
  | none =>
    have h0 : n = 0 := by
      rcases Nat.eq_zero_or_pos n with h | h
      · exact h
      · obtain ⟨b', off', e, -⟩ := hset.at_ (Below.refl _ _) (show 0 < set.length by omega)
        cases e
    have hs0 : set = [] := List.eq_nil_of_length_eq_zero (by omega)
    subst hs0 h0
    obtain ⟨v', w', hrun, r1, r2, _⟩ := run_append_own (P := Try.prog) w w.heap.size 22 o.type 3 i (.int .i64 0) 1 8 Try.underlying22 hi hz hsz hby rfl (by decide) (.slice none 0 0) 0 [] (World.ownsRow_nil w _ _ _) ⟨b, 0, none⟩ 1 1 [i64v y] rfl hc1 (by intro u hu; rw [List.mem_singleton.1 hu]; rfl) (by unfold maxLen; omega) (by omega) (Nat.le_refl _)
    unfold Oper.wp
    simp [execOp, hop, resolve, invoke, builtin, hs, hx, hrun, Result.andThen]
    exact fin v' w' r1 r2
/-- what the closure reads: how many, the yield, itself -/
structure WkW (y b2 b3 b4 many : Nat) (W : World) : Prop where
  m : W.cell? ⟨b2, 0, none⟩ = some (.int .i64 (many : Int))
  yv : W.cell? ⟨b3, 0, none⟩ = some (.func (.yield y) #[] #[])
  wk : W.cell? ⟨b4, 0, none⟩ = some (.func (.func 106) #[] #[.pointer (some ⟨b2, 0, none⟩), .pointer (some ⟨b3, 0, none⟩), .pointer (some ⟨b4, 0, none⟩)])
theorem WkW.kc {y b2 b3 b4 many : Nat} {X : Nat → Prop} {W W' : World} (h : WkW y b2 b3 b4 many W) (k : KC X W W') (h2 : ¬ X b2) (h3 : ¬ X b3) (h4 : ¬ X b4) : WkW y b2 b3 b4 many W' := ⟨k.cell h.m h2, k.cell h.yv h3, k.cell h.wk h4⟩
/-- how the closure ends -/
def WkE (X : Nat → Prop) (J : List Sy → World → Prop) (Jx : World → Prop) (pre : List Sy) (C : List (List Int)) (W : World) (e : Ending) (W' : World) : Prop :=
  KC X W W' ∧ ((e = .returned (.bool true) ∧ ∃ xs : List Sy, xs.map Sy.set = C ∧ J (pre ++ xs) W') ∨ (e = .returned (.bool false) ∧ Jx W'))
section
variable (nf y b2 b3 b4 many B0 : Nat) (X : Nat → Prop) (L : List (List Int)) (J : List Sy → World → Prop) (Jx : World → Prop)
set_option maxRecDepth 20000 in
set_option maxHeartbeats 4000000 in
theorem walk0_any (hJb : ∀ pre A B, J pre A → Below A.heap.size A B → J pre B)
    (hY : ∀ pre x W, J pre W → RSy X L pre x W → YieldAt Fence.wide (nf - 1) Try.prog y (encS x) W fun e W' => (e = .returned (.bool true) ∧ J (pre ++ [x]) W' ∧ KC X W W') ∨ (e = .returned (.bool false) ∧ Jx W' ∧ KC X W W'))
    (hX : ∀ b, X b → b < B0) (set : List Int) (lv sv : Value) (pre : List Sy) (rest : List (List Int)) (W : World) (hm : many = set.length)
    (hL : L = pre.map Sy.set ++ set :: rest) (h0 : J pre W) (hB : B0 ≤ W.heap.size) (hw : WkW y b2 b3 b4 many W) (hs : IsInts W (fun b => ¬ X b) sv set) (hs24 : set.length ≤ 24) :
    Calls Try.prog 106 #[lv, sv, .pointer (some ⟨b2, 0, none⟩), .pointer (some ⟨b3, 0, none⟩), .pointer (some ⟨b4, 0, none⟩)] W (WkE X J Jx pre [set] W) := by
  obtain ⟨sA, sc, rfl, hs1, hs2, -⟩ := id hs
  have CC := fun (W' : World) (h : Below W.heap.size W W') => Lib.hid (clone_any W' _ _ set (IsSl.below hs h) (by omega))
  obtain ⟨n, hn⟩ : ∃ n, n = set.length := ⟨_, rfl⟩
  rw [← hn] at hm CC hs24
  rw [← hn]
  have HN := Lib.hid hn
  have HS := Lib.hid hs
  have HL := Lib.hid hL
  have HJ := Lib.hid h0
  have c2 := hw.m
  have c3 := hw.yv
  rw [hm] at c2
  have b3l := lt_of_cell c3
  clear hn hs hL h0 hm hs1 hs2 hw
  go_enter Try.func106, Try.ntmps106
  have ht : ((n : Int) == (n : Int)) = true := by rw [beq_iff_eq]
  go_upto_region 2 with fail
  refine wpIn_wide (n := nf) |>.1 ?_
  refine wpIn_region_any (by kernel_rfl) ?_
  change wpAnyIn _ _ _ _ _ _ _ _ _ W.drew
  refine wpAnyIn_take (i := 1) (v := ?_) rfl rfl (by kernel_rfl) (by kernel_rfl) (by kernel_rfl) (fun _ _ _ h => h) ⟨Or.inl ⟨by rfl, ?_⟩, fun _ => rfl⟩ ?_
  rotate_left 1
  focus (intro w; go_simp; (try with_reducible rfl))
  refine wpAnyIn_ready (rs := [0, 2]) (by kernel_rfl) (by simp) ?_
  refine AllReadyIn.cons rfl (fun K hK => ?_) ?_
  · skip
    go_simp
    refine hK _ _ ?_
    clear hK K
    refine wpAnyIn_ready (rs := [2]) (by kernel_rfl) (by simp) ?_
    refine AllReadyIn.cons rfl (fun K hK => ?_) AllReadyIn.nil
    go_simp
    refine ⟨trivial, fun h => (by cases h), callsIn_wide.2 ?_⟩
    refine (CC _ (Below.drew (Below.refl _ _))).out.mono ?_
    rintro e w9 ⟨A9, d9, rfl, hown, hb9⟩
    have hb9' : Below W.heap.size W w9 := (show Below W.heap.size W _ from (Below.drew (Below.refl _ _))).trans hb9
    rw [← HN.out] at hown ⊢
    refine hK _ _ ?_
    clear hK K
    refine wpAnyIn_ready (rs := [3]) (by kernel_rfl) (by simp) ?_
    refine AllReadyIn.cons rfl (fun K hK => ?_) AllReadyIn.nil
    have hin9 : IsInts w9 (fun b => ¬ X b) (.slice A9 n d9) set := IsSl.mono (IsInts.ofOwn (by rw [← HN.out]; exact hown)) (fun b _ hb hx => absurd (hX b hx) (by have hb' : W.heap.size ≤ b := hb; omega)) (by omega)
    obtain ⟨fn, tmps, assign, body, hy, hR⟩ := hY pre ⟨.slice A9 n d9, set⟩ w9 (hJb _ _ _ HJ.out hb9') ⟨⟨rest, HL.out⟩, hin9⟩
    simp only [encS] at hy
    go_simp
    refine ⟨fun h => (by cases h), hR.mono ?_⟩
    rintro e W3 (⟨rfl, hJ3, hk3⟩ | ⟨rfl, hx3, hk3⟩)
    · refine hK _ _ ?_
      clear hK K
      refine wpAnyIn_take (i := 4) (v := ?_) rfl rfl (by kernel_rfl) (by kernel_rfl) (by kernel_rfl) (fun _ _ _ h => h) ⟨Or.inl ⟨by rfl, ?_⟩, fun _ => rfl⟩ ?_
      rotate_left 1
      focus (intro w; go_simp; (try with_reducible rfl))
      refine wpAnyIn_done (by kernel_rfl) ?_ _
      go_wp2_with fail
      go_ret
      exact ⟨(KC.ofBelow hb9').trans hk3, .inl ⟨rfl, [⟨.slice A9 n d9, set⟩], rfl, hJ3⟩⟩
    · refine hK _ _ ?_
      clear hK K
      refine wpAnyIn_take (i := 4) (v := ?_) rfl rfl (by kernel_rfl) (by kernel_rfl) (by kernel_rfl) (fun _ _ _ h => h) ⟨Or.inl ⟨by rfl, ?_⟩, fun _ => rfl⟩ ?_
      rotate_left 1
      focus (intro w; go_simp; (try with_reducible rfl))
      refine wpAnyIn_done (by kernel_rfl) ?_ _
      go_wp2_with fail
      go_ret
      exact ⟨(KC.ofBelow hb9').trans hk3, .inr ⟨rfl, hx3⟩⟩
  refine AllReadyIn.cons rfl (fun K hK => ?_) AllReadyIn.nil
  go_simp
  refine ⟨trivial, fun h => (by cases h), callsIn_wide.2 ?_⟩
  refine (CC _ (Below.drew (Below.refl _ _))).out.mono ?_
  rintro e w9 ⟨A9, d9, rfl, hown, hb9⟩
  have hb9' : Below W.heap.size W w9 := (show Below W.heap.size W _ from (Below.drew (Below.refl _ _))).trans hb9
  rw [← HN.out] at hown ⊢
  refine hK _ _ ?_
  clear hK K
  refine wpAnyIn_ready (rs := [0]) (by kernel_rfl) (by simp) ?_
  refine AllReadyIn.cons rfl (fun K hK => ?_) AllReadyIn.nil
  have c3 := (hb9'.cell (p := ⟨b3, 0, none⟩) b3l).trans c3
  go_simp
  refine hK _ _ ?_
  clear hK K
  refine wpAnyIn_ready (rs := [3]) (by kernel_rfl) (by simp) ?_
  refine AllReadyIn.cons rfl (fun K hK => ?_) AllReadyIn.nil
  have hin9 : IsInts w9 (fun b => ¬ X b) (.slice A9 n d9) set := IsSl.mono (IsInts.ofOwn (by rw [← HN.out]; exact hown)) (fun b _ hb hx => absurd (hX b hx) (by have hb' : W.heap.size ≤ b := hb; omega)) (by omega)
  obtain ⟨fn, tmps, assign, body, hy, hR⟩ := hY pre ⟨.slice A9 n d9, set⟩ w9 (hJb _ _ _ HJ.out hb9') ⟨⟨rest, HL.out⟩, hin9⟩
  simp only [encS] at hy
  go_simp
  refine ⟨fun h => (by cases h), hR.mono ?_⟩
  rintro e W3 (⟨rfl, hJ3, hk3⟩ | ⟨rfl, hx3, hk3⟩)
  · refine hK _ _ ?_
    clear hK K
    refine wpAnyIn_take (i := 4) (v := ?_) rfl rfl (by kernel_rfl) (by kernel_rfl) (by kernel_rfl) (fun _ _ _ h => h) ⟨Or.inl ⟨by rfl, ?_⟩, fun _ => rfl⟩ ?_
    rotate_left 1
    focus (intro w; go_simp; (try with_reducible rfl))
    refine wpAnyIn_done (by kernel_rfl) ?_ _
    go_wp2_with fail
    go_ret
    exact ⟨(KC.ofBelow hb9').trans hk3, .inl ⟨rfl, [⟨.slice A9 n d9, set⟩], rfl, hJ3⟩⟩
  · refine hK _ _ ?_
    clear hK K
    refine wpAnyIn_take (i := 4) (v := ?_) rfl rfl (by kernel_rfl) (by kernel_rfl) (by kernel_rfl) (fun _ _ _ h => h) ⟨Or.inl ⟨by rfl, ?_⟩, fun _ => rfl⟩ ?_
    rotate_left 1
    focus (intro w; go_simp; (try with_reducible rfl))
    refine wpAnyIn_done (by kernel_rfl) ?_ _
    go_wp2_with fail
    go_ret
    exact ⟨(KC.ofBelow hb9').trans hk3, .inr ⟨rfl, hx3⟩⟩
set_option maxRecDepth 20000 in
set_option maxHeartbeats 4000000 in
theorem walk_any (hJb : ∀ pre A B, J pre A → Below A.heap.size A B → J pre B)
    (hY : ∀ pre x W, J pre W → RSy X L pre x W → YieldAt Fence.wide (nf - 1) Try.prog y (encS x) W fun e W' => (e = .returned (.bool true) ∧ J (pre ++ [x]) W' ∧ KC X W W') ∨ (e = .returned (.bool false) ∧ Jx W' ∧ KC X W W'))
    (hX : ∀ b, X b → b < B0) (h2 : ¬ X b2) (h3 : ¬ X b3) (h4 : ¬ X b4) (hm24 : many ≤ 24) :
    ∀ (d : Nat) (l set : List Int) (lv sv : Value) (pre : List Sy) (rest : List (List Int)) (W : World), many = set.length + d →
    L = pre.map Sy.set ++ ((comb l d).map (set ++ ·) ++ rest) → J pre W → B0 ≤ W.heap.size → WkW y b2 b3 b4 many W → IsInts W (fun b => ¬ X b) lv l → IsInts W (fun b => ¬ X b) sv set → l.length ≤ 24 →
    Calls Try.prog 106 #[lv, sv, .pointer (some ⟨b2, 0, none⟩), .pointer (some ⟨b3, 0, none⟩), .pointer (some ⟨b4, 0, none⟩)] W (WkE X J Jx pre ((comb l d).map (set ++ ·)) W) := by
  intro d
  induction d with
  | zero =>
    intro l set lv sv pre rest W hm hL h0 hB hw _ hs _
    rw [comb_zero] at hL ⊢
    have := walk0_any nf y b2 b3 b4 many B0 X L J Jx hJb hY hX set lv sv pre rest W hm (by simpa using hL) h0 hB hw hs (by omega)
    simpa using this
  | succ k ih =>
    intro l set lv sv pre rest W hm hL h0 hB hw hl hs hl24
    have IH := Lib.hid ih
    have HY := Lib.hid hY
    have HJB := Lib.hid hJb
    obtain ⟨lA, lc, rfl, hl1, hl2, -⟩ := id hl
    obtain ⟨sA, sc, rfl, hs1, hs2, -⟩ := id hs
    obtain ⟨nl, hnl⟩ : ∃ nl, nl = l.length := ⟨_, rfl⟩
    obtain ⟨n, hn⟩ : ∃ n, n = set.length := ⟨_, rfl⟩
    rw [← hnl] at hl1 hl24
    rw [← hn] at hs1 hm
    rw [← hn, ← hnl]
    have HNL := Lib.hid hnl
    have HN := Lib.hid hn
    have HLI := Lib.hid hl
    have HSI := Lib.hid hs
    have HL := Lib.hid hL
    have HJ := Lib.hid h0
    have HW0 := Lib.hid hw
    have c2 := hw.m
    have ht : ((n : Int) == (many : Int)) = false := by rw [beq_eq_false_iff_ne]; omega
    have HM := Lib.hid hm
    clear hnl hn hl hs hL h0 hw ih hY hJb hm
    go_enter Try.func106, Try.ntmps106
    go_wp2_with fail
    clear c2
    go_loopw [20] (fun s20 wr => ∃ (i : Nat) (xs : List Sy), i ≤ nl ∧ s20 = .int .i64 (i : Int) ∧ Hid ((comb l (k + 1)).map (set ++ ·) = xs.map Sy.set ++ (comb (l.drop i) (k + 1)).map (set ++ ·)) ∧ Hid (J (pre ++ xs) wr) ∧ Hid (KC X W wr)) (fun s20 _ => nl - (intOf s20).toNat)
    case atStart => exact ⟨0, [], Nat.zero_le _, rfl, Lib.hid (by simp), Lib.hid (by rw [List.append_nil]; exact HJ.out), Lib.hid (KC.refl _)⟩
    case round =>
      obtain ⟨i, xs, hi, rfl, HE, HJx, HK⟩ := hrel
      have HWK := Lib.hid (HW0.out.kc HK.out h2 h3 h4)
      by_cases hlt : i < nl
      · have hli := KC.sl (X := X) HK.out (fun _ h => h) HLI.out
        obtain ⟨lb, lo, rfl, hlbl, hlx⟩ := IsInts.at_ hli (Below.refl _ _) (show i < l.length by rw [← HNL.out]; exact hlt)
        have HLI2 := Lib.hid (show IsInts wr (fun b => ¬ X b) (.slice (some ⟨lb, lo, none⟩) nl lc) l by rw [HNL.out]; exact hli)
        have HSW := Lib.hid (show IsInts W (fun b => ¬ X b) (.slice sA n n) set by have := HSI.out; rw [← HN.out] at this; exact this.clip)
        obtain ⟨x, hx⟩ : ∃ x, x = nthI l i := ⟨_, rfl⟩
        rw [← hx] at hlx
        have HXE := Lib.hid hx
        have hi0 : (0 : Int) ≤ (i : Int) := by omega
        have hi1 : (i : Int) < (nl : Int) := by omega
        have hi2 : (i : Int) + 1 ≤ (nl : Int) := by omega
        have hi3 : i + 1 ≤ nl := by omega
        have hi6 : (0 : Int) ≤ (i : Int) + 1 := by omega
        have hi4 : ¬ (nl : Int) < (i : Int) + 1 := by omega
        have hi5 : ¬ (nl : Int) ≤ (i : Int) := by omega
        have hn0 : (0 : Int) ≤ (n : Int) := by omega
        have hn1 : (n : Int) ≤ (sc : Int) := by omega
        have hl3 : (nl : Int) ≤ (lc : Int) := by omega
        have hm1 : many = n + (k + 1) := HM.out
        have hwm : IntKind.i64.wrap ((many : Int) - (n : Int)) = (k : Int) + 1 := by rw [IntWalk.i64_in _ (by omega)]; omega
        obtain ⟨r, hr⟩ : ∃ r, r = nl - i := ⟨_, rfl⟩
        have hwl : IntKind.i64.wrap ((nl : Int) - (i : Int)) = (r : Int) := by rw [IntWalk.i64_in _ (by omega)]; omega
        have HR := Lib.hid hr
        have hwi : IntKind.i64.wrap ((i : Int) + 1) = (i : Int) + 1 := IntWalk.i64_in _ (by omega)
        clear hx hli hm1 hr
        go_upto_region 6 with fail
        by_cases hge : k + 1 ≤ r
        · skip
          have hge1 : decide (((k : Int) + 1 : Int) ≤ (r : Int)) = true := by rw [decide_eq_true_eq]; omega
          clear hge
          refine wp_region_held_drew (S := fun W9 => KC X wr W9) (by kernel_rfl) (KC.drew (KC.refl _)) (fun hHeld => ?_)
          change wpAnyH _ _ _ _ _ 27 #[false, false, false, false, false, false, false, false, false, false, false, false, false, false, false, false, false, false, false, false, false, false, false, false, false, false, false] _ wr.drew
          refine takeD (i := 0) (d := some 25) (v := ?_) rfl rfl (by kernel_rfl) (by kernel_rfl) (by kernel_rfl) (fun _ _ _ h => h) (Or.inl ⟨by rfl, ?_⟩) hHeld ?_
          rotate_left 1
          focus (intro w hSw; (try dsimp only at hSw); go_simp; (try with_reducible rfl))
          (repeat (first | simp only [Act.put] | simp only [List.setIfInBounds_toArray] | simp only [List.set_cons_zero] | simp only [List.set_cons_succ]))
          refine takeD (i := 1) (d := some 26) (v := ?_) rfl rfl (by kernel_rfl) (by kernel_rfl) (by kernel_rfl) (fun _ _ _ h => h) (Or.inl ⟨by rfl, ?_⟩) hHeld ?_
          rotate_left 1
          focus (intro w hSw; (try dsimp only at hSw); go_simp; (try with_reducible rfl))
          (repeat (first | simp only [Act.put] | simp only [List.setIfInBounds_toArray] | simp only [List.set_cons_zero] | simp only [List.set_cons_succ]))
          refine takeD (i := 2) (d := some 27) (v := ?_) rfl rfl (by kernel_rfl) (by kernel_rfl) (by kernel_rfl) (fun _ _ _ h => h) (Or.inl ⟨by rfl, ?_⟩) hHeld ?_
          rotate_left 1
          focus (intro w hSw; (try dsimp only at hSw); go_simp; (try with_reducible rfl))
          (repeat (first | simp only [Act.put] | simp only [List.setIfInBounds_toArray] | simp only [List.set_cons_zero] | simp only [List.set_cons_succ]))
          refine takeD (i := 3) (d := some 28) (v := ?_) rfl rfl (by kernel_rfl) (by kernel_rfl) (by kernel_rfl) (fun _ _ _ h => h) (Or.inl ⟨by rfl, ?_⟩) hHeld ?_
          rotate_left 1
          focus (intro w hSw; (try dsimp only at hSw); go_simp; (try with_reducible rfl))
          (repeat (first | simp only [Act.put] | simp only [List.setIfInBounds_toArray] | simp only [List.set_cons_zero] | simp only [List.set_cons_succ]))
          refine takeD (i := 4) (d := some 29) (v := ?_) rfl rfl (by kernel_rfl) (by kernel_rfl) (by kernel_rfl) (fun _ _ _ h => h) (Or.inl ⟨by rfl, ?_⟩) hHeld ?_
          rotate_left 1
          focus (intro w hSw; (try dsimp only at hSw); have c2 := (HWK.out.kc hSw h2 h3 h4).m; have c4 := (HWK.out.kc hSw h2 h3 h4).wk; go_simp; (try with_reducible rfl))
          (repeat (first | simp only [Act.put] | simp only [List.setIfInBounds_toArray] | simp only [List.set_cons_zero] | simp only [List.set_cons_succ]))
          refine takeD (i := 5) (d := some 30) (v := ?_) rfl rfl (by kernel_rfl) (by kernel_rfl) (by kernel_rfl) (fun _ _ _ h => h) (Or.inl ⟨by rfl, ?_⟩) hHeld ?_
          rotate_left 1
          focus (intro w hSw; (try dsimp only at hSw); go_simp; (try with_reducible rfl))
          (repeat (first | simp only [Act.put] | simp only [List.setIfInBounds_toArray] | simp only [List.set_cons_zero] | simp only [List.set_cons_succ]))
          refine takeD (i := 6) (d := some 31) (v := ?_) rfl rfl (by kernel_rfl) (by kernel_rfl) (by kernel_rfl) (fun _ _ _ h => h) (Or.inl ⟨by rfl, ?_⟩) hHeld ?_
          rotate_left 1
          focus (intro w hSw; (try dsimp only at hSw); go_simp; (try with_reducible rfl))
          (repeat (first | simp only [Act.put] | simp only [List.setIfInBounds_toArray] | simp only [List.set_cons_zero] | simp only [List.set_cons_succ]))
          refine takeD (i := 7) (d := some 32) (v := ?_) rfl rfl (by kernel_rfl) (by kernel_rfl) (by kernel_rfl) (fun _ _ _ h => h) (Or.inl ⟨by rfl, ?_⟩) hHeld ?_
          rotate_left 1
          focus (intro w hSw; (try dsimp only at hSw); go_simp; (try with_reducible rfl))
          (repeat (first | simp only [Act.put] | simp only [List.setIfInBounds_toArray] | simp only [List.set_cons_zero] | simp only [List.set_cons_succ]))
          refine takeD (i := 8) (d := some 33) (v := ?_) rfl rfl (by kernel_rfl) (by kernel_rfl) (by kernel_rfl) (fun _ _ _ h => h) (Or.inl ⟨by rfl, ?_⟩) hHeld ?_
          rotate_left 1
          focus (intro w hSw; (try dsimp only at hSw); go_simp; (try with_reducible rfl))
          (repeat (first | simp only [Act.put] | simp only [List.setIfInBounds_toArray] | simp only [List.set_cons_zero] | simp only [List.set_cons_succ]))
          refine takeD (i := 9) (d := some 34) (v := ?_) rfl rfl (by kernel_rfl) (by kernel_rfl) (by kernel_rfl) (fun _ _ _ h => h) (Or.inl ⟨by rfl, ?_⟩) hHeld ?_
          rotate_left 1
          focus (intro w hSw; (try dsimp only at hSw); go_simp; (try with_reducible rfl))
          (repeat (first | simp only [Act.put] | simp only [List.setIfInBounds_toArray] | simp only [List.set_cons_zero] | simp only [List.set_cons_succ]))
          refine takeD (i := 10) (d := some 35) (v := ?_) rfl rfl (by kernel_rfl) (by kernel_rfl) (by kernel_rfl) (fun _ _ _ h => h) (Or.inl ⟨by rfl, ?_⟩) hHeld ?_
          rotate_left 1
          focus (intro w hSw; (try dsimp only at hSw); have c2 := (HWK.out.kc hSw h2 h3 h4).m; have c4 := (HWK.out.kc hSw h2 h3 h4).wk; go_simp; (try with_reducible rfl))
          (repeat (first | simp only [Act.put] | simp only [List.setIfInBounds_toArray] | simp only [List.set_cons_zero] | simp only [List.set_cons_succ]))
          refine takeD (i := 11) (d := some 36) (v := ?_) rfl rfl (by kernel_rfl) (by kernel_rfl) (by kernel_rfl) (fun _ _ _ h => h) (Or.inl ⟨by rfl, ?_⟩) hHeld ?_
          rotate_left 1
          focus (intro w hSw; (try dsimp only at hSw); go_simp; (try with_reducible rfl))
          (repeat (first | simp only [Act.put] | simp only [List.setIfInBounds_toArray] | simp only [List.set_cons_zero] | simp only [List.set_cons_succ]))
          refine takeD (i := 12) (d := some 37) (v := ?_) rfl rfl (by kernel_rfl) (by kernel_rfl) (by kernel_rfl) (fun _ _ _ h => h) (Or.inl ⟨by rfl, ?_⟩) hHeld ?_
          rotate_left 1
          focus (intro w hSw; (try dsimp only at hSw); go_simp; (try with_reducible rfl))
          (repeat (first | simp only [Act.put] | simp only [List.setIfInBounds_toArray] | simp only [List.set_cons_zero] | simp only [List.set_cons_succ]))
          refine takeD (i := 13) (d := some 38) (v := ?_) rfl rfl (by kernel_rfl) (by kernel_rfl) (by kernel_rfl) (fun _ _ _ h => h) (Or.inl ⟨by rfl, ?_⟩) hHeld ?_
          rotate_left 1
          focus (intro w hSw; (try dsimp only at hSw); go_simp; (try with_reducible rfl))
          (repeat (first | simp only [Act.put] | simp only [List.setIfInBounds_toArray] | simp only [List.set_cons_zero] | simp only [List.set_cons_succ]))
          refine takeD (i := 14) (d := some 39) (v := ?_) rfl rfl (by kernel_rfl) (by kernel_rfl) (by kernel_rfl) (fun _ _ _ h => h) (Or.inl ⟨by rfl, ?_⟩) hHeld ?_
          rotate_left 1
          focus (intro w hSw; (try dsimp only at hSw); go_simp; (try with_reducible rfl))
          (repeat (first | simp only [Act.put] | simp only [List.setIfInBounds_toArray] | simp only [List.set_cons_zero] | simp only [List.set_cons_succ]))
          refine takeD (i := 15) (d := some 40) (v := ?_) rfl rfl (by kernel_rfl) (by kernel_rfl) (by kernel_rfl) (fun _ _ _ h => h) (Or.inl ⟨by rfl, ?_⟩) hHeld ?_
          rotate_left 1
          focus (intro w hSw; (try dsimp only at hSw); go_simp; (try with_reducible rfl))
          (repeat (first | simp only [Act.put] | simp only [List.setIfInBounds_toArray] | simp only [List.set_cons_zero] | simp only [List.set_cons_succ]))
          refine takeD (i := 16) (d := some 41) (v := ?_) rfl rfl (by kernel_rfl) (by kernel_rfl) (by kernel_rfl) (fun _ _ _ h => h) (Or.inl ⟨by rfl, ?_⟩) hHeld ?_
          rotate_left 1
          focus (intro w hSw; (try dsimp only at hSw); go_simp; (try with_reducible rfl))
          (repeat (first | simp only [Act.put] | simp only [List.setIfInBounds_toArray] | simp only [List.set_cons_zero] | simp only [List.set_cons_succ]))
          refine takeD (i := 17) (d := some 42) (v := ?_) rfl rfl (by kernel_rfl) (by kernel_rfl) (by kernel_rfl) (fun _ _ _ h => h) (Or.inl ⟨by rfl, ?_⟩) hHeld ?_
          rotate_left 1
          focus (intro w hSw; (try dsimp only at hSw); go_simp; (try with_reducible rfl))
          (repeat (first | simp only [Act.put] | simp only [List.setIfInBounds_toArray] | simp only [List.set_cons_zero] | simp only [List.set_cons_succ]))
          refine takeD (i := 18) (d := some 43) (v := ?_) rfl rfl (by kernel_rfl) (by kernel_rfl) (by kernel_rfl) (fun _ _ _ h => h) (Or.inl ⟨by rfl, ?_⟩) hHeld ?_
          rotate_left 1
          focus (intro w hSw; (try dsimp only at hSw); go_simp; (try with_reducible rfl))
          (repeat (first | simp only [Act.put] | simp only [List.setIfInBounds_toArray] | simp only [List.set_cons_zero] | simp only [List.set_cons_succ]))
          refine takeD (i := 19) (d := some 44) (v := ?_) rfl rfl (by kernel_rfl) (by kernel_rfl) (by kernel_rfl) (fun _ _ _ h => h) (Or.inl ⟨by rfl, ?_⟩) hHeld ?_
          rotate_left 1
          focus (intro w hSw; (try dsimp only at hSw); go_simp; (try with_reducible rfl))
          (repeat (first | simp only [Act.put] | simp only [List.setIfInBounds_toArray] | simp only [List.set_cons_zero] | simp only [List.set_cons_succ]))
          refine takeD (i := 20) (d := some 45) (v := ?_) rfl rfl (by kernel_rfl) (by kernel_rfl) (by kernel_rfl) (fun _ _ _ h => h) (Or.inl ⟨by rfl, ?_⟩) hHeld ?_
          rotate_left 1
          focus (intro w hSw; (try dsimp only at hSw); go_simp; (try with_reducible rfl))
          (repeat (first | simp only [Act.put] | simp only [List.setIfInBounds_toArray] | simp only [List.set_cons_zero] | simp only [List.set_cons_succ]))
          refine takeD (i := 21) (d := some 46) (v := ?_) rfl rfl (by kernel_rfl) (by kernel_rfl) (by kernel_rfl) (fun _ _ _ h => h) (Or.inl ⟨by rfl, ?_⟩) hHeld ?_
          rotate_left 1
          focus (intro w hSw; (try dsimp only at hSw); go_simp; (try with_reducible rfl))
          (repeat (first | simp only [Act.put] | simp only [List.setIfInBounds_toArray] | simp only [List.set_cons_zero] | simp only [List.set_cons_succ]))
          refine wpAnyH_ready (rs := [22]) (by kernel_rfl) (by simp) ?_
          refine AllReadyH.cons rfl (fun K hK => ?_) AllReadyH.nil
          go_simp
          refine hK.out _ _ ((by repeat (first | with_reducible exact KC.refl _ | with_reducible exact HK9.out | (with_reducible refine KC.drew ?_) | (with_reducible refine KC.alloc ?_ _)))) (fun hHeld => ?_)
          clear hK K
          (repeat (first | simp only [Act.put] | simp only [List.setIfInBounds_toArray] | simp only [List.set_cons_zero] | simp only [List.set_cons_succ]))
          refine wpAnyH_ready (rs := [23]) (by kernel_rfl) (by simp) ?_
          refine AllReadyH.cons rfl (fun K hK => ?_) AllReadyH.nil
          refine step_grow1 (by rfl) (.tmp 45) (.tmp 47) rfl (M := fun b => ¬ X b) set rfl (KC.sl (X := X) (HK.out.trans (by repeat (first | with_reducible exact KC.refl _ | with_reducible exact HKnone.out | (with_reducible refine KC.drew ?_) | (with_reducible refine KC.alloc ?_ _)))) (fun _ h => h) HSW.out) x rfl (heap_alloc_new _ _) (by have := HM.out; omega) ?_
          intro A9 d9 w9 HI9 HB9
          have HBW9 := Lib.hid (show Below wr.heap.size wr w9 from (show Below wr.heap.size wr _ from (Below.drew (Below.refl _ _)).alloc (Nat.le_refl _) _).trans (HB9.out.mono (by simp)))
          have HK9 := Lib.hid (KC.ofBelow (X := X) HBW9.out)
          refine hK.out _ _ (HK9.out) (fun hHeld => ?_)
          clear hK K
          (repeat (first | simp only [Act.put] | simp only [List.setIfInBounds_toArray] | simp only [List.set_cons_zero] | simp only [List.set_cons_succ]))
          refine wpAnyH_ready (rs := [24]) (by kernel_rfl) (by simp) ?_
          refine AllReadyH.cons rfl (fun K hK => ?_) AllReadyH.nil
          go_simp
          go_at_call 106
          refine (IH.out (l.drop (i + 1)) (set ++ [x]) _ _ (pre ++ xs) ((comb (l.drop (i + 1)) (k + 1)).map (set ++ ·) ++ rest) _ (by rw [List.length_append, ← HN.out, List.length_singleton]; have := HM.out; omega) ?cL (HJB.out _ _ _ HJx.out HBW9.out) (by have := HK.out.size; have := HBW9.out.size; omega) (HWK.out.kc HK9.out h2 h3 h4) (KC.sl (X := X) HK9.out (fun _ h => h) (IsInts.cutOff HLI2.out (i + 1) hi3)) (IsSl.mono HI9.out (fun b _ hb hx => absurd (hX b hx) (by have := HK.out.size; have hb' : wr.heap.size ≤ b := Nat.le_trans (by simp) hb; omega)) (by omega)) (by rw [List.length_drop, ← HNL.out]; omega)).mono ?_
          case cL =>
            rw [HL.out, HE.out, comb_drop (by rw [← HNL.out]; exact hlt), ← HXE.out]
            simp [Function.comp_def]
          rintro e w10 ⟨hk, hres⟩
          rcases hres with ⟨rfl, ys, hys, hJ⟩ | ⟨rfl, hx10⟩
          · skip
            refine hK.out _ _ (HK9.out.trans hk) (fun hHeld => ?_)
            clear hK K
            (repeat (first | simp only [Act.put] | simp only [List.setIfInBounds_toArray] | simp only [List.set_cons_zero] | simp only [List.set_cons_succ]))
            refine takeD (i := 25) (d := some 50) (v := ?_) rfl rfl (by kernel_rfl) (by kernel_rfl) (by kernel_rfl) (fun _ _ _ h => h) (Or.inl ⟨by rfl, ?_⟩) hHeld ?_
            rotate_left 1
            focus (intro w hSw; (try dsimp only at hSw); go_simp; (try with_reducible rfl))
            (repeat (first | simp only [Act.put] | simp only [List.setIfInBounds_toArray] | simp only [List.set_cons_zero] | simp only [List.set_cons_succ]))
            refine takeD (i := 26) (d := some 51) (v := ?_) rfl rfl (by kernel_rfl) (by kernel_rfl) (by kernel_rfl) (fun _ _ _ h => h) (Or.inl ⟨by rfl, ?_⟩) hHeld ?_
            rotate_left 1
            focus (intro w hSw; (try dsimp only at hSw); go_simp; (try with_reducible rfl))
            (repeat (first | simp only [Act.put] | simp only [List.setIfInBounds_toArray] | simp only [List.set_cons_zero] | simp only [List.set_cons_succ]))
            refine wpAnyH_done (by kernel_rfl) ?_ _
            have HE2 := Lib.hid (show (comb l (k + 1)).map (set ++ ·) = (xs ++ ys).map Sy.set ++ (comb (l.drop (i + 1)) (k + 1)).map (set ++ ·) from by
              rw [HE.out, comb_drop (by rw [← HNL.out]; exact hlt), ← HXE.out, List.map_append (l₁ := xs), hys]
              simp [Function.comp_def])
            have HJ2 := Lib.hid (show J (pre ++ (xs ++ ys)) w10 by rw [← List.append_assoc]; exact hJ)
            have HK2 := Lib.hid ((HK.out.trans HK9.out).trans hk)
            clear hJ hk hys
            go_wp2_with fail
            go_roundw
            case rel => exact ⟨i + 1, xs ++ ys, by omega, by go_num, HE2, HJ2, HK2⟩
            case measure => simp [intOf]; omega
          · skip
            refine hK.out _ _ (HK9.out.trans hk) (fun hHeld => ?_)
            clear hK K
            (repeat (first | simp only [Act.put] | simp only [List.setIfInBounds_toArray] | simp only [List.set_cons_zero] | simp only [List.set_cons_succ]))
            refine takeD (i := 25) (d := some 50) (v := ?_) rfl rfl (by kernel_rfl) (by kernel_rfl) (by kernel_rfl) (fun _ _ _ h => h) (Or.inl ⟨by rfl, ?_⟩) hHeld ?_
            rotate_left 1
            focus (intro w hSw; (try dsimp only at hSw); go_simp; (try with_reducible rfl))
            (repeat (first | simp only [Act.put] | simp only [List.setIfInBounds_toArray] | simp only [List.set_cons_zero] | simp only [List.set_cons_succ]))
            refine takeD (i := 26) (d := some 51) (v := ?_) rfl rfl (by kernel_rfl) (by kernel_rfl) (by kernel_rfl) (fun _ _ _ h => h) (Or.inl ⟨by rfl, ?_⟩) hHeld ?_
            rotate_left 1
            focus (intro w hSw; (try dsimp only at hSw); go_simp; (try with_reducible rfl))
            (repeat (first | simp only [Act.put] | simp only [List.setIfInBounds_toArray] | simp only [List.set_cons_zero] | simp only [List.set_cons_succ]))
            refine wpAnyH_done (by kernel_rfl) ?_ _
            have HK2 := Lib.hid ((HK.out.trans HK9.out).trans hk)
            clear hk
            go_wp2_with fail
            all_goals
              go_ret
              exact ⟨HK2.out, .inr ⟨rfl, hx10⟩⟩
        · skip
          have hge1 : decide ((k : Int) + 1 ≤ (r : Int)) = false := by rw [decide_eq_false_iff_not]; omega
          have HE2 := Lib.hid (show (comb l (k + 1)).map (set ++ ·) = xs.map Sy.set ++ (comb (l.drop (i + 1)) (k + 1)).map (set ++ ·) from by
            rw [HE.out, comb_few (l.drop i) (k + 1) (by rw [List.length_drop, ← HNL.out, ← HR.out]; omega), comb_few (l.drop (i + 1)) (k + 1) (by rw [List.length_drop, ← HNL.out]; have := HR.out; omega)])
          clear hge
          refine wp_region_held_drew (S := fun W9 => KC X wr W9) (by kernel_rfl) (KC.drew (KC.refl _)) (fun hHeld => ?_)
          change wpAnyH _ _ _ _ _ 27 #[false, false, false, false, false, false, false, false, false, false, false, false, false, false, false, false, false, false, false, false, false, false, false, false, false, false, false] _ wr.drew
          refine takeD (i := 0) (d := some 25) (v := ?_) rfl rfl (by kernel_rfl) (by kernel_rfl) (by kernel_rfl) (fun _ _ _ h => h) (Or.inl ⟨by rfl, ?_⟩) hHeld ?_
          rotate_left 1
          focus (intro w hSw; (try dsimp only at hSw); go_simp; (try with_reducible rfl))
          (repeat (first | simp only [Act.put] | simp only [List.setIfInBounds_toArray] | simp only [List.set_cons_zero] | simp only [List.set_cons_succ]))
          refine takeD (i := 1) (d := some 26) (v := ?_) rfl rfl (by kernel_rfl) (by kernel_rfl) (by kernel_rfl) (fun _ _ _ h => h) (Or.inl ⟨by rfl, ?_⟩) hHeld ?_
          rotate_left 1
          focus (intro w hSw; (try dsimp only at hSw); go_simp; (try with_reducible rfl))
          (repeat (first | simp only [Act.put] | simp only [List.setIfInBounds_toArray] | simp only [List.set_cons_zero] | simp only [List.set_cons_succ]))
          refine takeD (i := 2) (d := some 27) (v := ?_) rfl rfl (by kernel_rfl) (by kernel_rfl) (by kernel_rfl) (fun _ _ _ h => h) (Or.inl ⟨by rfl, ?_⟩) hHeld ?_
          rotate_left 1
          focus (intro w hSw; (try dsimp only at hSw); go_simp; (try with_reducible rfl))
          (repeat (first | simp only [Act.put] | simp only [List.setIfInBounds_toArray] | simp only [List.set_cons_zero] | simp only [List.set_cons_succ]))
          refine takeD (i := 3) (d := some 28) (v := ?_) rfl rfl (by kernel_rfl) (by kernel_rfl) (by kernel_rfl) (fun _ _ _ h => h) (Or.inl ⟨by rfl, ?_⟩) hHeld ?_
          rotate_left 1
          focus (intro w hSw; (try dsimp only at hSw); go_simp; (try with_reducible rfl))
          (repeat (first | simp only [Act.put] | simp only [List.setIfInBounds_toArray] | simp only [List.set_cons_zero] | simp only [List.set_cons_succ]))
          refine takeD (i := 4) (d := some 29) (v := ?_) rfl rfl (by kernel_rfl) (by kernel_rfl) (by kernel_rfl) (fun _ _ _ h => h) (Or.inl ⟨by rfl, ?_⟩) hHeld ?_
          rotate_left 1
          focus (intro w hSw; (try dsimp only at hSw); have c2 := (HWK.out.kc hSw h2 h3 h4).m; have c4 := (HWK.out.kc hSw h2 h3 h4).wk; go_simp; (try with_reducible rfl))
          (repeat (first | simp only [Act.put] | simp only [List.setIfInBounds_toArray] | simp only [List.set_cons_zero] | simp only [List.set_cons_succ]))
          refine takeD (i := 5) (d := some 30) (v := ?_) rfl rfl (by kernel_rfl) (by kernel_rfl) (by kernel_rfl) (fun _ _ _ h => h) (Or.inl ⟨by rfl, ?_⟩) hHeld ?_
          rotate_left 1
          focus (intro w hSw; (try dsimp only at hSw); go_simp; (try with_reducible rfl))
          (repeat (first | simp only [Act.put] | simp only [List.setIfInBounds_toArray] | simp only [List.set_cons_zero] | simp only [List.set_cons_succ]))
          refine takeD (i := 6) (d := some 31) (v := ?_) rfl rfl (by kernel_rfl) (by kernel_rfl) (by kernel_rfl) (fun _ _ _ h => h) (Or.inl ⟨by rfl, ?_⟩) hHeld ?_
          rotate_left 1
          focus (intro w hSw; (try dsimp only at hSw); go_simp; (try with_reducible rfl))
          (repeat (first | simp only [Act.put] | simp only [List.setIfInBounds_toArray] | simp only [List.set_cons_zero] | simp only [List.set_cons_succ]))
          refine takeD (i := 7) (d := some 32) (v := ?_) rfl rfl (by kernel_rfl) (by kernel_rfl) (by kernel_rfl) (fun _ _ _ h => h) (Or.inl ⟨by rfl, ?_⟩) hHeld ?_
          rotate_left 1
          focus (intro w hSw; (try dsimp only at hSw); go_simp; (try with_reducible rfl))
          (repeat (first | simp only [Act.put] | simp only [List.setIfInBounds_toArray] | simp only [List.set_cons_zero] | simp only [List.set_cons_succ]))
          refine takeD (i := 8) (d := some 33) (v := ?_) rfl rfl (by kernel_rfl) (by kernel_rfl) (by kernel_rfl) (fun _ _ _ h => h) (Or.inl ⟨by rfl, ?_⟩) hHeld ?_
          rotate_left 1
          focus (intro w hSw; (try dsimp only at hSw); go_simp; (try with_reducible rfl))
          (repeat (first | simp only [Act.put] | simp only [List.setIfInBounds_toArray] | simp only [List.set_cons_zero] | simp only [List.set_cons_succ]))
          refine takeD (i := 9) (d := some 34) (v := ?_) rfl rfl (by kernel_rfl) (by kernel_rfl) (by kernel_rfl) (fun _ _ _ h => h) (Or.inl ⟨by rfl, ?_⟩) hHeld ?_
          rotate_left 1
          focus (intro w hSw; (try dsimp only at hSw); go_simp; (try with_reducible rfl))
          (repeat (first | simp only [Act.put] | simp only [List.setIfInBounds_toArray] | simp only [List.set_cons_zero] | simp only [List.set_cons_succ]))
          refine takeD (i := 10) (d := some 35) (v := undef) rfl rfl (by kernel_rfl) (by kernel_rfl) (by kernel_rfl) (fun _ _ _ h => h) (Or.inr ⟨by rfl, rfl⟩) hHeld ?_
          (repeat (first | simp only [Act.put] | simp only [List.setIfInBounds_toArray] | simp only [List.set_cons_zero] | simp only [List.set_cons_succ]))
          refine takeD (i := 11) (d := some 36) (v := undef) rfl rfl (by kernel_rfl) (by kernel_rfl) (by kernel_rfl) (fun _ _ _ h => h) (Or.inr ⟨by rfl, rfl⟩) hHeld ?_
          (repeat (first | simp only [Act.put] | simp only [List.setIfInBounds_toArray] | simp only [List.set_cons_zero] | simp only [List.set_cons_succ]))
          refine takeD (i := 12) (d := some 37) (v := undef) rfl rfl (by kernel_rfl) (by kernel_rfl) (by kernel_rfl) (fun _ _ _ h => h) (Or.inr ⟨by rfl, rfl⟩) hHeld ?_
          (repeat (first | simp only [Act.put] | simp only [List.setIfInBounds_toArray] | simp only [List.set_cons_zero] | simp only [List.set_cons_succ]))
          refine takeD (i := 13) (d := some 38) (v := undef) rfl rfl (by kernel_rfl) (by kernel_rfl) (by kernel_rfl) (fun _ _ _ h => h) (Or.inr ⟨by rfl, rfl⟩) hHeld ?_
          (repeat (first | simp only [Act.put] | simp only [List.setIfInBounds_toArray] | simp only [List.set_cons_zero] | simp only [List.set_cons_succ]))
          refine takeD (i := 14) (d := some 39) (v := undef) rfl rfl (by kernel_rfl) (by kernel_rfl) (by kernel_rfl) (fun _ _ _ h => h) (Or.inr ⟨by rfl, rfl⟩) hHeld ?_
          (repeat (first | simp only [Act.put] | simp only [List.setIfInBounds_toArray] | simp only [List.set_cons_zero] | simp only [List.set_cons_succ]))
          refine takeD (i := 15) (d := some 40) (v := undef) rfl rfl (by kernel_rfl) (by kernel_rfl) (by kernel_rfl) (fun _ _ _ h => h) (Or.inr ⟨by rfl, rfl⟩) hHeld ?_
          (repeat (first | simp only [Act.put] | simp only [List.setIfInBounds_toArray] | simp only [List.set_cons_zero] | simp only [List.set_cons_succ]))
          refine takeD (i := 16) (d := some 41) (v := undef) rfl rfl (by kernel_rfl) (by kernel_rfl) (by kernel_rfl) (fun _ _ _ h => h) (Or.inr ⟨by rfl, rfl⟩) hHeld ?_
          (repeat (first | simp only [Act.put] | simp only [List.setIfInBounds_toArray] | simp only [List.set_cons_zero] | simp only [List.set_cons_succ]))
          refine takeD (i := 17) (d := some 42) (v := undef) rfl rfl (by kernel_rfl) (by kernel_rfl) (by kernel_rfl) (fun _ _ _ h => h) (Or.inr ⟨by rfl, rfl⟩) hHeld ?_
          (repeat (first | simp only [Act.put] | simp only [List.setIfInBounds_toArray] | simp only [List.set_cons_zero] | simp only [List.set_cons_succ]))
          refine takeD (i := 18) (d := some 43) (v := undef) rfl rfl (by kernel_rfl) (by kernel_rfl) (by kernel_rfl) (fun _ _ _ h => h) (Or.inr ⟨by rfl, rfl⟩) hHeld ?_
          (repeat (first | simp only [Act.put] | simp only [List.setIfInBounds_toArray] | simp only [List.set_cons_zero] | simp only [List.set_cons_succ]))
          refine takeD (i := 19) (d := some 44) (v := undef) rfl rfl (by kernel_rfl) (by kernel_rfl) (by kernel_rfl) (fun _ _ _ h => h) (Or.inr ⟨by rfl, rfl⟩) hHeld ?_
          (repeat (first | simp only [Act.put] | simp only [List.setIfInBounds_toArray] | simp only [List.set_cons_zero] | simp only [List.set_cons_succ]))
          refine takeD (i := 20) (d := some 45) (v := undef) rfl rfl (by kernel_rfl) (by kernel_rfl) (by kernel_rfl) (fun _ _ _ h => h) (Or.inr ⟨by rfl, rfl⟩) hHeld ?_
          (repeat (first | simp only [Act.put] | simp only [List.setIfInBounds_toArray] | simp only [List.set_cons_zero] | simp only [List.set_cons_succ]))
          refine takeD (i := 21) (d := some 46) (v := undef) rfl rfl (by kernel_rfl) (by kernel_rfl) (by kernel_rfl) (fun _ _ _ h => h) (Or.inr ⟨by rfl, rfl⟩) hHeld ?_
          (repeat (first | simp only [Act.put] | simp only [List.setIfInBounds_toArray] | simp only [List.set_cons_zero] | simp only [List.set_cons_succ]))
          refine takeD (i := 22) (d := some 47) (v := undef) rfl rfl (by kernel_rfl) (by kernel_rfl) (by kernel_rfl) (fun _ _ _ h => h) (Or.inr ⟨by rfl, rfl⟩) hHeld ?_
          (repeat (first | simp only [Act.put] | simp only [List.setIfInBounds_toArray] | simp only [List.set_cons_zero] | simp only [List.set_cons_succ]))
          refine takeD (i := 23) (d := some 48) (v := undef) rfl rfl (by kernel_rfl) (by kernel_rfl) (by kernel_rfl) (fun _ _ _ h => h) (Or.inr ⟨by rfl, rfl⟩) hHeld ?_
          (repeat (first | simp only [Act.put] | simp only [List.setIfInBounds_toArray] | simp only [List.set_cons_zero] | simp only [List.set_cons_succ]))
          refine takeD (i := 24) (d := some 49) (v := undef) rfl rfl (by kernel_rfl) (by kernel_rfl) (by kernel_rfl) (fun _ _ _ h => h) (Or.inr ⟨by rfl, rfl⟩) hHeld ?_
          (repeat (first | simp only [Act.put] | simp only [List.setIfInBounds_toArray] | simp only [List.set_cons_zero] | simp only [List.set_cons_succ]))
          refine takeD (i := 25) (d := some 50) (v := undef) rfl rfl (by kernel_rfl) (by kernel_rfl) (by kernel_rfl) (fun _ _ _ h => h) (Or.inr ⟨by rfl, rfl⟩) hHeld ?_
          (repeat (first | simp only [Act.put] | simp only [List.setIfInBounds_toArray] | simp only [List.set_cons_zero] | simp only [List.set_cons_succ]))
          refine takeD (i := 26) (d := some 51) (v := ?_) rfl rfl (by kernel_rfl) (by kernel_rfl) (by kernel_rfl) (fun _ _ _ h => h) (Or.inl ⟨by rfl, ?_⟩) hHeld ?_
          rotate_left 1
          focus (intro w hSw; (try dsimp only at hSw); go_simp; (try with_reducible rfl))
          (repeat (first | simp only [Act.put] | simp only [List.setIfInBounds_toArray] | simp only [List.set_cons_zero] | simp only [List.set_cons_succ]))
          refine wpAnyH_done (by kernel_rfl) ?_ _
          have HJ2 := Lib.hid (HJB.out _ _ wr.drew HJx.out (Below.drew (Below.refl _ _)))
          go_wp2_with fail
          go_roundw
          case rel => exact ⟨i + 1, xs, by omega, by go_num, HE2, HJ2, Lib.hid (KC.drew HK.out)⟩
          case measure => simp [intOf]; omega
      · have hnl : ¬ (i : Int) < (nl : Int) := by omega
        obtain rfl : i = nl := by omega
        have HE2 := Lib.hid (show xs.map Sy.set = (comb l (k + 1)).map (set ++ ·) by rw [HE.out, HNL.out, List.drop_length]; simp [comb])
        go_wp2_with fail
        go_ret
        exact ⟨HK.out, .inl ⟨rfl, xs, HE2.out, HJx.out⟩⟩
end
end Go.Proofs.Ythlnfjbedehjdaa
