import Derived.Test.YtgaanndidcdbpaaZJ
import Derived.Test.YtgaanndidcdbpaaZE
import Derived.Laws.EntriesVeiled
import Derived.BigQuiet
import Derived.RangeFuncNested
/- shared: the opened shares of a club. -/
namespace Go.Proofs.Ytgaanndidcdbpaa
open Go.RowKit Go.Shelf

attribute [local go_sem] Oper.semAt_some
/-- the opened shares of a club -/
def shL (l : List OpnD) (c : Int) : List (Nat × Nat) := (l.filter fun o => decide (o.club = c)).map OpnD.sh
def shQ (l : List OpnD) (c : Int) (k : Nat) : Nat := (shL (l.take k) c).length
def nthS (L : List (Nat × Nat)) (q : Nat) : Nat × Nat := L.getD q (0, 0)
theorem shQ_zero (l : List OpnD) (c : Int) : shQ l c 0 = 0 := rfl
theorem shQ_all (l : List OpnD) (c : Int) : shQ l c l.length = (shL l c).length := by unfold shQ; rw [List.take_length]
theorem shQ_no {l : List OpnD} {c : Int} {k : Nat} (hk : k < l.length) (h : (opnN l k).club ≠ c) : shQ l c (k + 1) = shQ l c k := by
  unfold shQ shL
  have e : opnN l k = l[k] := by unfold opnN; rw [List.getD_eq_getElem?_getD, List.getElem?_eq_getElem hk]; rfl
  rw [List.take_add_one, List.getElem?_eq_getElem hk, List.filter_append, List.map_append]
  rw [e] at h
  simp [h]
theorem shQ_yes {l : List OpnD} {c : Int} {k : Nat} (hk : k < l.length) (h : (opnN l k).club = c) : shQ l c (k + 1) = shQ l c k + 1 ∧ shQ l c k < (shL l c).length ∧ nthS (shL l c) (shQ l c k) = (opnN l k).sh := by
  have e : opnN l k = l[k] := by unfold opnN; rw [List.getD_eq_getElem?_getD, List.getElem?_eq_getElem hk]; rfl
  have e1 : shL l c = shL (l.take k) c ++ (opnN l k).sh :: shL (l.drop (k + 1)) c := by
    conv => lhs; rw [← List.take_append_drop k l, List.drop_eq_getElem_cons hk]
    unfold shL
    rw [List.filter_append, List.map_append, ← e]
    simp [h]
  refine ⟨?_, ?_, ?_⟩
  · unfold shQ shL
    rw [List.take_add_one, List.getElem?_eq_getElem hk, List.filter_append, List.map_append]
    rw [e] at h
    simp [h]
  · rw [e1, List.length_append, List.length_cons]; unfold shQ; omega
  · unfold nthS
    rw [e1, List.getD_eq_getElem?_getD, List.getElem?_append_right (by unfold shQ; omega)]
    unfold shQ
    rw [Nat.sub_self]; rfl
theorem shL_len (l : List OpnD) (c : Int) : (shL l c).length ≤ l.length := by unfold shL; rw [List.length_map]; exact List.length_filter_le _ _
def encSh (L : List (Nat × Nat)) (q : Nat) : Array Value := #[.agg #[.int .u64 ((nthS L q).1 : Int), .int .u64 ((nthS L q).2 : Int)]]
theorem num1_any {w : World} {g : Nat} {cx : Int} (h : w.heap[g]? = some (.cells #[.int .i64 cx] 3 (0, 0))) (ax : Int) (ay : Nat) : Calls Try.prog 54 #[.agg #[.int .i64 ax, .int .u64 (ay : Int)], .pointer (some ⟨g, 0, none⟩)] w fun e w' => e = .returned (.bool (ax == cx)) ∧ Below w.heap.size w w' := by
  have hg := lt_heap h
  have c0 := cell_of (j := 0) h rfl
  clear h
  go_enter Try.func54, Try.ntmps54
  go_wp2_with fail
  go_ret
  exact ⟨rfl, (Below.refl _ _).alloc (Nat.le_refl _) _⟩
theorem shared_any (x0 x1 x2 x3 x4 x5 x6 x7 x8 : Value) (c : Int) (w : World) : Calls Try.prog 55 #[.agg #[x0, x1, x2, x3, x4, x5, x6, x7, x8], .int .i64 c] w fun e w' => e = .returned (.func (.func 89) #[] #[.pointer (some ⟨w.heap.size, 0, none⟩), .pointer (some ⟨w.heap.size + 1, 0, none⟩)]) ∧ w' = (w.alloc (.cells #[x0, x1, x2, x3, x4, x5, x6, x7, x8] 89 (0, 0))).alloc (.cells #[.int .i64 c] 3) := by
  go_enter Try.func55, Try.ntmps55
  go_wp2_with fail
  go_ret
  exact ⟨rfl, rfl⟩
theorem grown_drewN' (w : World) (n : Nat) (row : Option Nat) : w.grownBy (w.drewN n) row := ⟨rfl, rfl, rfl, Nat.le_refl _, fun _ _ _ => rfl⟩
set_option maxRecDepth 100000 in
set_option maxHeartbeats 4000000 in
theorem shared1_in (n : Nat) (_hn : 1 ≤ n) (l Bb Bi cap : Nat) (M : Nat → Prop) (A : Option Addr) (os : List OpnD) (c : Int) (hos : os.length ≤ 1000) (hBi : M Bi) (J Jx : List Nat → World → Prop) (hJ : ∀ pre X Y, J pre X → X.grownBy Y none → J pre Y)
    (hY : ∀ pre q W, J pre W → pre.length < (shL os c).length → YieldAt Fence.wide (n - 1) Try.prog l (encSh (shL os c) q) W fun e W' =>
      (e = .returned (.bool true) ∧ J (pre ++ [q]) W' ∧ KM M W W') ∨ (e = .returned (.bool false) ∧ Jx (pre ++ [q]) W'))
    (W : World) (hM : ∀ k, M k → k < W.heap.size) (cBb : W.cell? ⟨Bb, 5, none⟩ = some (.slice A os.length cap)) (cBi : W.cell? ⟨Bi, 0, none⟩ = some (.int .i64 c)) (hc : IsOpns W M (.slice A os.length cap) os) (h0 : J [] W) :
    CallsIn Fence.wide n Try.prog 89 #[.func (.yield l) #[] #[], .pointer (some ⟨Bb, 0, none⟩), .pointer (some ⟨Bi, 0, none⟩)] W fun e W' => (∃ v, e = .returned v) ∧
      ((∃ ys, ys = List.range (shL os c).length ∧ J ys W') ∨ (∃ pre, (∃ q, q < (shL os c).length ∧ pre = List.range (q + 1)) ∧ Jx pre W')) := by
  obtain ⟨A', c', e', -, -, hc⟩ := hc
  cases e'
  have HC := Lib.hid hc
  have HM := Lib.hid hM
  clear hc
  refine callsIn_of_wp Try.func89 rfl trivial ?_ rfl
  simp only [Try.ntmps89, List.size_toArray, List.length_cons, List.length_nil, Nat.reduceAdd, Nat.reduceSub, Array.replicate_succ, Array.replicate_zero, List.push_toArray, List.append_toArray, List.nil_append, List.cons_append]
  gi_wp2_with fail
  gi_loopw [10] (fun s10 wr => ∃ k : Nat, k ≤ os.length ∧ s10 = .int .i64 (k : Int) ∧ Hid (J (List.range (shQ os c k)) wr) ∧ Hid (KM M W wr)) (fun s10 _ => os.length - (intOf s10).toNat)
  case atStart => exact ⟨0, Nat.zero_le _, rfl, Lib.hid h0, Lib.hid (KM.refl _)⟩
  case round =>
    obtain ⟨k, hk, rfl, HJ0, HK⟩ := hrel
    by_cases hlt : k < os.length
    · have hk1 : (k : Int) < (os.length : Int) := by omega
      have hk0 : (0 : Int) ≤ (k : Int) := by omega
      obtain ⟨b, off, rfl, hb, hcs⟩ := HC.out (by omega)
      have hc0 : wr.cell? ⟨b, off + k * 4, none⟩ = some (.int .i64 (opnN os k).club) := (HK.out.cell (p := ⟨b, _, none⟩) hb).trans (hcs k 0 hlt (by omega))
      have hc1 : wr.cell? ⟨b, off + k * 4 + 1, none⟩ = some (.int .i64 (opnN os k).frm) := (HK.out.cell (p := ⟨b, _, none⟩) hb).trans (hcs k 1 hlt (by omega))
      have hc2 : wr.cell? ⟨b, off + k * 4 + 1 + 1, none⟩ = some (.int .u64 ((opnN os k).sh.1 : Int)) := (HK.out.cell (p := ⟨b, _, none⟩) hb).trans (hcs k 2 hlt (by omega))
      have hc3 : wr.cell? ⟨b, off + k * 4 + 1 + 1 + 1, none⟩ = some (.int .u64 ((opnN os k).sh.2 : Int)) := (HK.out.cell (p := ⟨b, _, none⟩) hb).trans (hcs k 3 hlt (by omega))
      have ci := (HK.out.cell (p := ⟨Bi, 0, none⟩) hBi).trans cBi
      have hbl : b < wr.heap.size := Nat.lt_of_lt_of_le (HM.out b hb) HK.out.size
      have hil : Bi < wr.heap.size := Nat.lt_of_lt_of_le (HM.out Bi hBi) HK.out.size
      have HN := Lib.hid (shQ_no (c := c) hlt)
      have HYs := Lib.hid (shQ_yes (c := c) hlt)
      obtain ⟨ox, hox⟩ : ∃ z, z = (opnN os k).club := ⟨_, rfl⟩
      obtain ⟨fx, hfx⟩ : ∃ z, z = (opnN os k).frm := ⟨_, rfl⟩
      obtain ⟨sx, hsx⟩ : ∃ z, z = (opnN os k).sh.1 := ⟨_, rfl⟩
      obtain ⟨sy, hsy⟩ : ∃ z, z = (opnN os k).sh.2 := ⟨_, rfl⟩
      rw [← hox] at hc0 HN HYs
      rw [← hfx] at hc1
      rw [← hsx] at hc2
      rw [← hsy] at hc3
      have HSX := Lib.hid (And.intro hsx hsy)
      clear hox hfx hsx hsy hcs
      by_cases ho : ox = c
      · have b0 : (ox == c) = true := by rw [beq_iff_eq]; exact ho
        obtain ⟨q1, q2, q3⟩ := HYs.out ho
        have HQ1 := Lib.hid q1
        have HQ2 := Lib.hid q2
        have HE : Hid (encSh (shL os c) (shQ os c k) = #[.agg #[.int .u64 (sx : Int), .int .u64 (sy : Int)]]) := Lib.hid (by unfold encSh; rw [q3, HSX.out.1, HSX.out.2])
        have hJw : J (List.range (shQ os c k)) (wr.alloc (.cells #[.int .i64 ox, .int .i64 fx, .int .u64 (sx : Int), .int .u64 (sy : Int)] 61)) := hJ _ _ _ HJ0.out (World.grownBy_alloc _ _ _)
        have HY0 := hY (List.range (shQ os c k)) (shQ os c k) _ hJw (by rw [List.length_range]; exact q2)
        rw [HE.out] at HY0
        obtain ⟨fn, tmps, assign, body, hy, hR⟩ := HY0
        clear q1 q2 q3 hJw ho
        gi_wp2_with fail
        refine hR.mono ?_
        rintro e W3 (⟨rfl, hJ3, hk3⟩ | ⟨rfl, hJx3⟩)
        · have HK3 := Lib.hid ((HK.out.alloc HM.out (.cells #[.int .i64 ox, .int .i64 fx, .int .u64 (sx : Int), .int .u64 (sy : Int)] 61)).trans hk3)
          have HJ3 := Lib.hid hJ3
          clear hJ3 hk3 hy hR
          gi_wp2_with fail
          go_roundw
          case rel => exact ⟨k + 1, by omega, by go_num, Lib.hid (by rw [HQ1.out, List.range_succ]; exact HJ3.out), HK3⟩
          case measure => simp [intOf]; omega
        · have HJ3 := Lib.hid hJx3
          clear hJx3 hy hR
          gi_wp2_with fail
          refine bodyPost_ret (results_none rfl _ _ _) rfl ?_
          exact ⟨⟨_, rfl⟩, .inr ⟨_, ⟨shQ os c k, HQ2.out, rfl⟩, by rw [List.range_succ]; exact HJ3.out⟩⟩
      · have b0 : (ox == c) = false := by rw [beq_eq_false_iff_ne]; exact ho
        have HQ1 := Lib.hid (HN.out ho)
        have HJn := Lib.hid (hJ _ _ _ HJ0.out (World.grownBy_alloc wr (.cells #[.int .i64 ox, .int .i64 fx, .int .u64 (sx : Int), .int .u64 (sy : Int)] 61) none))
        have HKn := Lib.hid (HK.out.alloc HM.out (.cells #[.int .i64 ox, .int .i64 fx, .int .u64 (sx : Int), .int .u64 (sy : Int)] 61))
        clear ho
        gi_wp2_with fail
        refine ⟨fun f h => (by cases h), ?_⟩
        gi_wp2_with fail
        go_roundw
        case rel => exact ⟨k + 1, by omega, by go_num, Lib.hid (by rw [HQ1.out]; exact HJn.out), HKn⟩
        case measure => simp [intOf]; omega
    · have hk1 : ¬ (k : Int) < (os.length : Int) := by omega
      obtain rfl : k = os.length := by omega
      have HA := Lib.hid (shQ_all os c)
      gi_wp2_with fail
      go_end0
      exact ⟨⟨_, rfl⟩, .inl (by rw [← HA.out]; exact HJ0.out)⟩
theorem shared_stops (n : Nat) (hn : 1 ≤ n) (Bb Bi cap : Nat) (M : Nat → Prop) (A : Option Addr) (os : List OpnD) (c : Int) (hos : os.length ≤ 1000) (hBb : M Bb) (hBi : M Bi) (w : World) (hM : ∀ k, M k → k < w.heap.size)
    (cBb : w.cell? ⟨Bb, 5, none⟩ = some (.slice A os.length cap)) (cBi : w.cell? ⟨Bi, 0, none⟩ = some (.int .i64 c)) (hc : IsOpns w M (.slice A os.length cap) os) :
    SeqStopsK Fence.wide n Try.prog 89 #[.pointer (some ⟨Bb, 0, none⟩), .pointer (some ⟨Bi, 0, none⟩)] (encSh (shL os c)) (KM M) (fun ys => ys = List.range (shL os c).length) (fun pre => ∃ q, q < (shL os c).length ∧ pre = List.range (q + 1)) (shL os c).length w := fun l J Jx W hW hJ _ hY h0 =>
  shared1_in n hn l Bb Bi cap M A os c hos hBi J Jx (fun pre X Y hj hg => hJ pre X Y none hj hg (fun r e => by cases e)) hY W (fun k hk => Nat.lt_of_lt_of_le (hM k hk) hW.size) ((hW.cell (p := ⟨Bb, 5, none⟩) (hM _ hBb)).trans cBb) ((hW.cell (p := ⟨Bi, 0, none⟩) (hM _ hBi)).trans cBi) (IsSl.keep hc fun _ hp _ => hW.cell (hM _ hp)) h0
end Go.Proofs.Ytgaanndidcdbpaa
/- number: the number of a club, revealed or joined out of opened shares. -/
namespace Go.Proofs.Ytgaanndidcdbpaa
open Go.RowKit Go.Shelf

attribute [local go_sem] Oper.semAt_some
def revI (b : BeaD) (c : Int) : Int := idxF (fun i => (revN b.revs i).club == c) b.revs.length
def numberD (b : BeaD) (c : Int) : Nat × Bool :=
  if 0 ≤ revI b c then ((revN b.revs (revI b c).toNat).num, true)
  else if ((shL b.opns c).length : Int) < b.thr then (0, false)
  else ((joinD (shL b.opns c) b.thr).1, (joinD (shL b.opns c) b.thr).2 == 0)
theorem number_rev {b : BeaD} {c : Int} {i : Nat} (h : (i : Int) = revI b c) : numberD b c = ((revN b.revs i).num, true) := by
  unfold numberD; rw [if_pos (by omega), ← h]; rfl
theorem number_few {b : BeaD} {c : Int} (h : ¬ 0 ≤ revI b c) (h2 : ((shL b.opns c).length : Int) < b.thr) : numberD b c = (0, false) := by
  unfold numberD; rw [if_neg h, if_pos h2]
theorem number_join {b : BeaD} {c : Int} (h : ¬ 0 ≤ revI b c) (h2 : ¬ ((shL b.opns c).length : Int) < b.thr) : numberD b c = ((joinD (shL b.opns c) b.thr).1, (joinD (shL b.opns c) b.thr).2 == 0) := by
  unfold numberD; rw [if_neg h, if_neg h2]
def NumB (w : World) (z : Nat × Bool) (e : Ending) (w' : World) : Prop := e = .returned (.tuple #[.int .u64 (z.1 : Int), .bool z.2]) ∧ Below w.heap.size w w'
theorem idxF_hi {p : Nat → Bool} {n : Nat} {x : Int} (h : x = idxF p n) (h0 : 0 ≤ x) : x.toNat < n := by
  unfold idxF at h
  cases hf : (List.range n).find? p with
  | none => rw [hf] at h; simp only at h; omega
  | some i =>
    rw [hf] at h
    have := List.mem_range.1 (List.mem_of_find?_eq_some hf)
    simp only at h
    omega
section
variable {ops : Array Oper} {o : Oper} {a : Act} {rest : List Oper} {Q : Exit → Act → World → Prop} {w : World}
theorem wpListIn_appSh {F : Fence} {n : Nat} (hgd : o.guard = none) (s x : Operand) (ho : o.op = .call { callee := .builtin .append, args := #[s, x], argTypes := #[54, 54] }) (base : Nat) (v : Value) (xs : List (Nat × Nat)) (y : Nat × Nat) (hs : a.eval s = v)
    (hr : w.ownsRow base 59 2 v xs.length (rowS xs)) (g c : Nat) (hx : a.eval x = .slice (some ⟨g, 0, none⟩) 1 c) (hg0 : w.cell? ⟨g, 0, none⟩ = some (u64v y.1)) (hg1 : w.cell? ⟨g, 1, none⟩ = some (u64v y.2)) (hl : (xs.length + 1) * 16 ≤ 140737488355328) (hbase : base ≤ w.heap.size)
    (h : ∀ v' w', Hid (w'.ownsRow base 59 2 v' (xs ++ [y]).length (rowS (xs ++ [y]))) → Hid (w.grownBy w' v.ownBlock) → wpListIn F n Try.prog ops Q rest (a.put o.dst v') w') : wpListIn F n Try.prog ops Q (o :: rest) a w := by
  obtain ⟨i, hi, hz0, hz1, hz2⟩ := info_parts Try.info_sh
  refine wpListIn_plain hgd fun K hK' => ?_
  obtain ⟨v', w', hrun, h3, h4, h5⟩ := run_append_cells (P := Try.prog) w 54 o.type base 59 i (.agg #[.int .u64 0, .int .u64 0]) 2 16 Try.underlying54 hi hz0 hz1 hz2 rfl (by decide) v xs.length (rowS xs) hr (some ⟨g, 0, none⟩) 1 c [u64v y.1, u64v y.2] rfl (fun _ => ⟨_, rfl, fun j u hj => by
    have hj2 : j < 2 := (List.getElem?_eq_some_iff.1 hj).1
    rw [addr_add]
    rcases (by omega : j = 0 ∨ j = 1) with rfl | rfl
    · simp at hj; subst hj; exact hg0
    · simp at hj; subst hj; exact hg1⟩) (two_u64 _ _) (by unfold maxLen; omega) hl hbase
  unfold Oper.wpIn
  refine ⟨?_, ?_⟩
  · simp [Oper.about, ho, resolve, Target.leads, Sem.run_pure]
  · rw [Oper.semAt_plain F _ _ (by rw [ho]; intro c hc'; cases hc')]
    simp [execOp, ho, resolve, invoke, builtin, hs, hx, hrun, Result.andThen]
    exact hK' _ _ (h v' w' (Lib.hid (by rw [List.length_append]; exact rowS_snoc xs y ▸ h3)) (Lib.hid h4))
end
/-- a box that holds a row of its own -/
def ShBox (base gl : Nat) (W : World) (xs : List (Nat × Nat)) : Prop := ∃ A c, W.heap[gl]? = some (.cells #[.slice A xs.length c] 54 (0, 0)) ∧ W.ownsRow base 59 2 (.slice A xs.length c) xs.length (rowS xs)
def Mk (p : Prop) : Prop := p
theorem Mk.of {p : Prop} (h : Mk p) : p := h
theorem own_isCells {X : World} {base e sz n : Nat} {v : Value} {xs : List Value} {j : Nat} {o : Obj} (h : X.ownsRow base e sz v n xs) (ej : v.ownBlock = some j) (hj : X.heap[j]? = some o) : o.isCells = true := by
  rcases h.2 with ⟨rfl, _⟩ | ⟨g, cap, cur, rfl, _, hgb, _⟩
  · cases ej
  · simp [Value.ownBlock] at ej
    subst ej
    rw [hgb] at hj
    cases hj
    rfl
theorem own_set {X : World} {base e sz n g j : Nat} {v u : Value} {xs : List Value} (h : X.ownsRow base e sz v n xs) (hg : g < base) : (X.setCell ⟨g, j, none⟩ u).ownsRow base e sz v n xs := by
  refine ⟨h.1, h.2.imp id fun ⟨q, cap, cur, q1, q2, q3, q4⟩ => ⟨q, cap, cur, q1, q2, ?_, q4⟩⟩
  rw [Below.heap_setCell _ _ _ _ (show q ≠ g by omega)]
  exact q3
theorem own_out {X : World} {base e sz n : Nat} {v : Value} {xs : List Value} {r : Nat} (h : X.ownsRow base e sz v n xs) (hr : r < base) : v.ownBlock ≠ some r := by
  rcases h.2 with ⟨rfl, _⟩ | ⟨g, cap, cur, rfl, hg, _⟩
  · simp [Value.ownBlock]
  · simp [Value.ownBlock]; omega
theorem ownsRow_from {B : Nat} {X Y : World} {row : Option Nat} {base e sz n : Nat} {v : Value} {xs : List Value} (h : X.ownsRow base e sz v n xs) (hg : X.grownBy Y row) (hr : ∀ r, row = some r → B ≤ r ∧ ∃ o, X.heap[r]? = some o ∧ o.isCells = false) : Y.ownsRow base e sz v n xs := by
  refine h.kept hg ?_
  rcases h.2 with ⟨rfl, _⟩ | ⟨g, cap, cur, rfl, _, hgb, _⟩
  · exact .inl rfl
  · refine .inr fun e' => ?_
    obtain ⟨_, o, ho, hc⟩ := hr g (by simpa [Value.ownBlock] using e'.symm)
    rw [hgb] at ho
    cases ho
    cases hc
theorem ownFrom_shBox {β : Type} {B base gl : Nat} (f : β → List (Nat × Nat)) : OwnFrom B (fun (s : β) W => ShBox base gl W (f s)) := fun s X Y row hs hg hr => by
  obtain ⟨A, c, h1, h2⟩ := hs
  exact ⟨A, c, ownFrom_cells B gl (fun (_ : Unit) => .cells #[.slice A (f s).length c] 54 (0, 0)) (fun _ => rfl) () X Y row h1 hg hr, ownsRow_from h2 hg hr⟩
set_option maxRecDepth 100000 in
set_option maxHeartbeats 4000000 in
theorem number_any (w : World) (M : Nat → Prop) (v : Value) (b : BeaD) (h : IsBoard w M v b) (c : Int) (hro : b.revs.length ≤ 1000 ∧ b.opns.length ≤ 1000) : Calls Try.prog 31 #[v, .int .i64 c] w (NumB w (numberD b c)) := by
  obtain ⟨hr0, ho0⟩ := hro
  obtain ⟨cA, cc, kA, kc, rA, rc, oA, oc, bp, bc, rfl, hcl, hcm, hrv, hop, hbm⟩ := h.parts
  have HRV := Lib.hid hrv
  have HOP := Lib.hid hop
  obtain ⟨rA', rc', e', hrc1, hrc2, hrcell⟩ := hrv
  cases e'
  have HRC := Lib.hid hrcell
  obtain ⟨w1, hw1⟩ : ∃ W, W = (w.alloc (.cells #[.slice cA b.clubs.length cc, .int .i64 b.thr, .int .u64 (b.rng : Int), .slice kA b.coms.length kc, .slice rA b.revs.length rc, .slice oA b.opns.length oc, .map (some bp), .map (some bc), .bool (doneB b)] 89 (0, 0))).alloc (.cells #[.int .i64 c] 3 (0, 0)) := ⟨_, rfl⟩
  have hz1 : w1.heap.size = w.heap.size + 2 := by rw [hw1]; simp
  have hB1 : Below w.heap.size w w1 := by rw [hw1]; exact ((Below.refl _ _).alloc (Nat.le_refl _) _).alloc (by simp) _
  have k0 : w1.heap[w.heap.size]? = some (.cells #[.slice cA b.clubs.length cc, .int .i64 b.thr, .int .u64 (b.rng : Int), .slice kA b.coms.length kc, .slice rA b.revs.length rc, .slice oA b.opns.length oc, .map (some bp), .map (some bc), .bool (doneB b)] 89 (0, 0)) := (by rw [hw1]; simp only [heap_alloc_if, World.size_alloc]; repeat (first | rw [if_pos trivial] | rw [if_pos (by omega)] | rw [if_neg (by omega)]))
  have k1 : w1.heap[w.heap.size + 1]? = some (.cells #[.int .i64 c] 3 (0, 0)) := (by rw [hw1]; simp only [heap_alloc_if, World.size_alloc]; repeat (first | rw [if_pos trivial] | rw [if_pos (by omega)] | rw [if_neg (by omega)]))
  have HI := Lib.hid (indexFuncR_any w1 M rA b.revs.length rc _ (by omega) (Cells.keep HRC.out fun p _ hp => hB1.cell hp) 54 #[.pointer (some ⟨w.heap.size + 1, 0, none⟩)] (fun i => (revN b.revs i).club == c) (enters_of Try.func54 (by kernel_rfl) rfl) (fun i hi wr hb => (num1_any ((hb.block _ (by omega)).trans k1) (revN b.revs i).club (revN b.revs i).num)))
  change Hid (Calls _ _ _ _ fun e w' => e = .returned (.int .i64 (revI b c)) ∧ _) at HI
  have HW1 := Lib.hid hw1
  have HB1 := Lib.hid hB1
  have HK0 := Lib.hid k0
  have HK1 := Lib.hid k1
  have HIX : Hid (revI b c = idxF (fun i => (revN b.revs i).club == c) b.revs.length) := Lib.hid rfl
  clear hB1 h hcl hcm hbm hop hrcell
  refine (callsIn_wide (n := 6)).1 ?_
  refine callsIn_of_wp_marks Try.func31 rfl trivial ?_ rfl
  simp only [Try.ntmps31, List.size_toArray, List.length_cons, List.length_nil, Nat.reduceAdd, Nat.reduceSub, Array.replicate_succ, Array.replicate_zero, List.push_toArray, List.append_toArray, List.nil_append, List.cons_append]
  gi_wp2_with fail
  refine ⟨trivial, callsIn_wide.2 ?_⟩
  rw [← HW1.out]
  refine HI.out.mono ?_
  rintro e w2 ⟨rfl, hb2⟩
  have K0 := (hb2.block w.heap.size (by omega)).trans HK0.out
  have K1 := (hb2.block (w.heap.size + 1) (by omega)).trans HK1.out
  have HB2 := Lib.hid (HB1.out.trans (hb2.mono HB1.out.size))
  have hz2 : w.heap.size + 2 ≤ w2.heap.size := by have := hb2.size; omega
  have c1 := cell_of (j := 1) K0 rfl
  have c4 := cell_of (j := 4) K0 rfl
  have HK2 := Lib.hid K0
  have HL2 := Lib.hid K1
  obtain ⟨x, hx⟩ : ∃ z, z = revI b c := ⟨_, rfl⟩
  have HXX := Lib.hid hx
  rw [← hx] at HIX ⊢
  clear hb2 K0 K1 hz1 k0 k1 hw1 hx HW1
  by_cases hx0 : 0 ≤ x
  · have b0 : decide (0 ≤ x) = true := by simpa using hx0
    have hxn : x.toNat < b.revs.length ∧ x = (x.toNat : Int) := ⟨idxF_hi HIX.out hx0, by omega⟩
    obtain ⟨i, hi⟩ : ∃ i, i = x.toNat := ⟨_, rfl⟩
    rw [← hi] at hxn
    obtain ⟨hil, rfl⟩ := hxn
    rw [number_rev HXX.out]
    obtain ⟨gb, off, rfl, hgb, hcs⟩ := HRC.out (by omega)
    have hgl : gb < w.heap.size := lt_of_cell (hcs i 1 hil (by omega))
    have r1 : w2.cell? ⟨gb, off + i * 2 + 1, none⟩ = some (.int .u64 ((revN b.revs i).num : Int)) := (HB2.out.cell (p := ⟨gb, _, none⟩) hgl).trans (hcs i 1 hil (by omega))
    have hi1 : (i : Int) < (b.revs.length : Int) := by omega
    clear hcs hi
    gi_wp2_with fail
    refine ⟨_, by simp [results, Try.f31, go_sem]; rfl, ?_, HB2.out⟩
    rw [number_rev HXX.out]
  · have HN0 : Hid (¬ 0 ≤ revI b c) := Lib.hid (by rw [← HXX.out]; exact hx0)
    have b0 : decide (0 ≤ x) = false := by simpa using hx0
    obtain ⟨w4, hw4⟩ : ∃ W, W = w2.alloc (.cells #[.slice none 0 0] 54) := ⟨_, rfl⟩
    have hk4 := (Below.heap_alloc w2 (.cells #[.slice none 0 0] 54) w.heap.size (by omega)).trans HK2.out
    have hl4 := (Below.heap_alloc w2 (.cells #[.slice none 0 0] 54) (w.heap.size + 1) (by omega)).trans HL2.out
    have HK4 := Lib.hid hk4
    have HL4 := Lib.hid hl4
    have HW4 := Lib.hid hw4
    clear c1 c4 hk4 hl4 hw4
    have c0 := cell_of (j := 0) HK4.out rfl
    have c1 := cell_of (j := 1) HK4.out rfl
    have c2 := cell_of (j := 2) HK4.out rfl
    have c3 := cell_of (j := 3) HK4.out rfl
    have c4 := cell_of (j := 4) HK4.out rfl
    have c5 := cell_of (j := 5) HK4.out rfl
    have c6 := cell_of (j := 6) HK4.out rfl
    have c7 := cell_of (j := 7) HK4.out rfl
    have c8 := cell_of (j := 8) HK4.out rfl
    have d0 := cell_of (j := 0) HL4.out rfl
    gi_wp2_with fail
    refine ⟨trivial, callsIn_wide.2 ?_⟩
    rw [← HW4.out]
    refine (shared_any _ _ _ _ _ _ _ _ _ _ _).mono ?_
    rintro e W0 ⟨rfl, hW0⟩
    have hz4 : w4.heap.size = w2.heap.size + 1 := by rw [HW4.out]; simp
    have hz0 : W0.heap.size = w2.heap.size + 3 := by rw [hW0]; simp; omega
    have hB0 : Below w4.heap.size w4 W0 := by rw [hW0]; exact ((Below.refl _ _).alloc (Nat.le_refl _) _).alloc (by simp) _
    have j0 : W0.heap[w4.heap.size]? = some (.cells #[.slice cA b.clubs.length cc, .int .i64 b.thr, .int .u64 (b.rng : Int), .slice kA b.coms.length kc, .slice rA b.revs.length rc, .slice oA b.opns.length oc, .map (some bp), .map (some bc), .bool (doneB b)] 89 (0, 0)) := (by rw [hW0]; simp only [heap_alloc_if, World.size_alloc]; repeat (first | rw [if_pos trivial] | rw [if_pos (by omega)] | rw [if_neg (by omega)]))
    have j1 : W0.heap[w4.heap.size + 1]? = some (.cells #[.int .i64 c] 3 (0, 0)) := (by rw [hW0]; simp only [heap_alloc_if, World.size_alloc]; repeat (first | rw [if_pos trivial] | rw [if_pos (by omega)] | rw [if_neg (by omega)]))
    have hg4 : w4.heap[w2.heap.size]? = some (.cells #[.slice none 0 0] 54 (0, 0)) := by rw [HW4.out]; exact heap_alloc_new _ _
    have G0 := (hB0.block w2.heap.size (by omega)).trans hg4
    have hkb := (hB0.block w.heap.size (by omega)).trans (HW4.out ▸ HK4.out)
    have hBW : Below w.heap.size w W0 := (HB2.out.trans (((Below.refl w2.heap.size w2).alloc (Nat.le_refl _) (.cells #[.slice none 0 0] 54)).mono HB2.out.size)).trans ((show Below w2.heap.size _ W0 from HW4.out ▸ hB0.mono (by omega)).mono HB2.out.size)
    have HBW := Lib.hid hBW
    have HKB := Lib.hid hkb
    have HG0 := Lib.hid G0
    rw [hz4] at j0 j1 ⊢
    have hop : IsOpns W0 (fun k => k < W0.heap.size ∧ k ≠ w2.heap.size) (.slice oA b.opns.length oc) b.opns := IsSl.below (IsSl.mono HOP.out (M' := fun k => k < W0.heap.size ∧ k ≠ w2.heap.size) (fun k hk _ => ⟨by omega, by omega⟩) (by omega)) HBW.out
    obtain ⟨L, hL⟩ : ∃ L, L = shL b.opns c := ⟨_, rfl⟩
    have hLl : L.length ≤ 1000 := by rw [hL]; exact Nat.le_trans (shL_len _ _) ho0
    have hnth : (List.range L.length).map (nthS L) = L := by
      refine List.ext_getElem (by simp) fun i h1 h2 => ?_
      simp [nthS, List.getElem?_eq_getElem h2]
    have HSQ := Lib.hid (shared_stops 5 (by decide) (w2.heap.size + 1) (w2.heap.size + 2) oc (fun k => k < W0.heap.size ∧ k ≠ w2.heap.size) oA b.opns c ho0 ⟨by omega, by omega⟩ ⟨by omega, by omega⟩ W0 (fun k hk => hk.1) (cell_of (j := 5) j0 rfl) (cell_of (j := 0) j1 rfl) hop)
    rw [← hL] at HSQ
    have HL := Lib.hid hL
    have HNT := Lib.hid hnth
    clear hL hnth hop j0 j1 hg4 G0 hkb hB0 hW0 hBW c0 c1 c2 c3 c4 c5 c6 c7 c8 d0
    gi_wp2_with fail
    refine wpIn_rangeFunc_ownH rfl (by omega) (gf := 89) (lb := #[.pointer (some ⟨w2.heap.size + 1, 0, none⟩), .pointer (some ⟨w2.heap.size + 2, 0, none⟩)]) rfl trivial (enters_of Try.func89 (by kernel_rfl) rfl)
      HSQ.out km_t (km_b (fun k hk => hk.1)) (Below.refl _ _) (fun _ => rfl)
      (fun pre W => ShBox W0.heap.size w2.heap.size W (pre.map (nthS L)) ∧ KM (fun k => k < W0.heap.size ∧ k ≠ w2.heap.size) W0 W ∧ Below w.heap.size w W)
      (fun _ _ _ => False)
      (OwnFrom.and (ownFrom_shBox (fun (pre : List Nat) => pre.map (nthS L))) (OwnFrom.and (ownFrom_km (fun k hk => hk.1) (Nat.le_refl _)) (ownFrom_below (Nat.le_refl _) HBW.out.size)))
      (fun _ _ _ _ _ hs _ _ => hs)
      ⟨⟨none, 0, HG0.out, own_nil _ _ _ _⟩, KM.refl _, HBW.out⟩
      (fun q a' W => ∃ Bx, W0.heap.size ≤ Bx ∧ W.heap[Bx]? = some (.cells #[.int .u64 ((nthS L q).1 : Int), .int .u64 ((nthS L q).2 : Int)] 59 (0, 0)) ∧ a' = { tmps := #[.agg #[.slice cA b.clubs.length cc, .int .i64 b.thr, .int .u64 (b.rng : Int), .slice kA b.coms.length kc, .slice rA b.revs.length rc, .slice oA b.opns.length oc, .map (some bp), .map (some bc), .bool (doneB b)], .int .i64 c, .pointer (some ⟨w.heap.size, 0, none⟩), .pointer (some ⟨w.heap.size + 1, 0, none⟩), .int .u64 0, .bool false, .int .i64 x, .pointer (some ⟨w2.heap.size, 0, none⟩), .pointer (some ⟨Bx, 0, none⟩), undef, .pointer (some ⟨w.heap.size, 0, none⟩), .pointer (some ⟨w.heap.size, 4, none⟩), .slice rA b.revs.length rc, .func (.func 54) #[] #[.pointer (some ⟨w.heap.size + 1, 0, none⟩)], .int .i64 x, .int .i64 x, .bool false, undef, undef, undef, undef, undef, undef, undef, .agg #[.slice cA b.clubs.length cc, .int .i64 b.thr, .int .u64 (b.rng : Int), .slice kA b.coms.length kc, .slice rA b.revs.length rc, .slice oA b.opns.length oc, .map (some bp), .map (some bc), .bool (doneB b)], .int .i64 c, .func (.func 89) #[] #[.pointer (some ⟨w2.heap.size + 1, 0, none⟩), .pointer (some ⟨w2.heap.size + 1 + 1, 0, none⟩)], .agg #[.int .u64 ((nthS L q).1 : Int), .int .u64 ((nthS L q).2 : Int)], undef, undef, undef, undef, undef, undef, undef, undef, undef, undef, undef, undef, undef, undef, undef, undef, undef, undef, undef, undef, undef], defers := [] })
      (fun q a' _ X Y row hs hg hr => by
        obtain ⟨Bx, h1, h2, h3⟩ := hs
        exact ⟨Bx, h1, (hg.block Bx (lt_heap h2) (fun e => by obtain ⟨_, o, ho, hno⟩ := hr Bx e.symm; rw [h2] at ho; cases ho; cases hno)).trans h2, h3⟩)
      ?assign ?body ?done ?stop
    case assign =>
      rintro l pre q W K ⟨hb, hk, hw⟩ hK
      simp only [encSh]
      gi_wp2
      have hM : ∀ k, (k < W0.heap.size ∧ k ≠ w2.heap.size) → k < W.heap.size := fun k hk' => Nat.lt_of_lt_of_le hk'.1 hk.size
      obtain ⟨A, cp, g1, g2⟩ := hb
      refine hK _ _ ((KeepsOthers.alloc _ _).from _) ((KM.refl W).alloc hM _) ⟨⟨A, cp, (Below.heap_alloc W _ _ (lt_heap g1)).trans g1, g2.alloc _⟩, (hk.alloc (fun k hk' => hk'.1) _), hw.alloc (by have := hk.size; have := HBW.out.size; omega) _⟩ ⟨W.heap.size, hk.size, heap_alloc_new _ _, rfl⟩
    case body =>
      rintro l pre q a' W hl - ⟨⟨A, cp, g1, g2⟩, hk, hw⟩ ⟨Bx, hBx, bX, rfl⟩ hlt
      have e0 := cell_of (j := 0) bX rfl
      have e1 := cell_of (j := 1) bX rfl
      have x0 := cell_of (j := 0) g1 rfl
      have hlp : pre.length ≤ 1000 := by omega
      simp only [List.length_map] at g1 g2 x0
      have hszW := hk.size
      have hbl : Bx < W.heap.size := lt_heap bX
      have hg2 : w2.heap.size < W.heap.size := by omega
      have hGW : w.heap.size ≤ w2.heap.size := by omega
      have HG1 := Lib.hid g1
      have HG2 := Lib.hid g2
      have HKM := Lib.hid hk
      have HWW := Lib.hid hw
      obtain ⟨sx, hsx⟩ : ∃ z, z = nthS L q := ⟨_, rfl⟩
      rw [← hsx] at e0 e1 ⊢
      have HSX := Lib.hid hsx
      clear g1 g2 hk hw hl bX hsx
      gi_wp2_with (gi_at_builtin; apply Mk.of)
      unfold Mk
      refine wpListIn_appSh rfl (.tmp 28) (.tmp 30) rfl W0.heap.size (.slice A pre.length cp) (pre.map (nthS L)) sx rfl (by rw [List.length_map]; exact HG2.out.alloc _) W.heap.size 1 rfl (cell_of (j := 0) (heap_alloc_new _ _) rfl) (cell_of (j := 1) (heap_alloc_new _ _) rfl) (by rw [List.length_map]; omega) (by simp; omega) ?_
      intro v' w6 HO HG
      obtain ⟨A6, c6, rfl⟩ := own_sl HO.out
      have hbx := (HG.out.block w2.heap.size (by simp; omega) (Ne.symm (own_out (r := w2.heap.size) HG2.out (by omega)))).trans ((Below.heap_alloc W _ w2.heap.size hg2).trans HG1.out)
      have y1 := cell_of (j := 0) hbx rfl
      have y2 : w6.frozen? ⟨w2.heap.size, 0, none⟩ = false := (by simp [World.frozen?, hbx])
      have HBX := Lib.hid hbx
      clear hbx
      gi_wp2_with fail
      have hgW : W.heap.size + 1 ≤ w6.heap.size := by have := HG.out.size; simpa using this
      refine ⟨(((KeepsOthers.alloc W _).trans (KeepsOthers.of_grownBy HG.out fun j o ej hj => own_isCells (HG2.out.alloc _) ej hj)).trans (KeepsOthers.setCell _ _ _)).from _, ?_, ⟨A6, c6, ?_, ?_⟩, ?_, ?_⟩
      · exact KM.setCell (M := fun k => k < W0.heap.size ∧ k ≠ w2.heap.size) ⟨by omega, fun k hk' => (HG.out.block k (by simp; omega) (Ne.symm (own_out (r := k) HG2.out hk'.1))).trans (Below.heap_alloc W _ k (by omega))⟩ (fun h => h.2 rfl) _ _
      · rw [List.map_append, List.map_singleton, ← HSX.out, show (pre.map (nthS L) ++ [sx]).length = pre.length + 1 by simp]; exact Blk_set HBX.out _
      · rw [List.map_append, List.map_singleton, ← HSX.out]; exact own_set HO.out (by omega)
      · exact HKM.out.trans (KM.setCell (M := fun k => k < W0.heap.size ∧ k ≠ w2.heap.size) ⟨by omega, fun k hk' => (HG.out.block k (by simp; omega) (Ne.symm (own_out (r := k) HG2.out hk'.1))).trans (Below.heap_alloc W _ k (by omega))⟩ (fun h => h.2 rfl) _ _)
      · exact Below.setCell (Below.grown (HWW.out.alloc (by omega) _) HG.out (by simp; omega) (fun k e => Nat.le_of_not_lt fun hlt => own_out (r := k) HG2.out (by omega) e)) (by dsimp only; omega) _
    case done =>
      rintro D ys W hD rfl ⟨⟨A, cp, g1, g2⟩, hk, hw⟩ hK
      rw [HNT.out] at g1 g2
      have HSH := Lib.hid (IsShs.ofOwn g2)
      have x0 := cell_of (j := 0) g1 rfl
      have hkb := (hk.block w.heap.size ⟨by have := HBW.out.size; omega, by have := HBW.out.size; omega⟩).trans HKB.out
      have x1 := cell_of (j := 1) hkb rfl
      have HWW := Lib.hid hw
      have HKD := Lib.hid hK
      have HDD := Lib.hid hD
      clear g1 g2 hk hw hkb hK hD
      by_cases hf : (L.length : Int) < b.thr
      · have b1 : decide ((L.length : Int) < b.thr) = true := by simpa using hf
        have HN := Lib.hid (number_few (b := b) (c := c) (by have := HN0.out; omega) (by rw [← HL.out]; exact hf))
        clear hf
        gi_wp2_with fail
        refine leave_marks _ _ (MarksIn.one (n₀ := w.heap.size) (Nat.le_trans HBW.out.size HDD.out) HKD.out) (Nat.le_trans HWW.out.size (Nat.le_refl _)) (fun w' hc hb => ?_)
        refine ⟨_, by simp [results, Try.f31, go_sem]; rfl, ?_, HWW.out.trans hb⟩
        rw [HN.out]
        rfl
      · have b1 : decide ((L.length : Int) < b.thr) = false := by simpa using hf
        have HN := Lib.hid (number_join (b := b) (c := c) (by have := HN0.out; omega) (by rw [← HL.out]; exact hf))
        have HJ := Lib.hid (join_any W _ _ L HSH.out (by omega) b.thr)
        rw [← HL.out] at HN
        obtain ⟨jn, hjn⟩ : ∃ z, z = joinD L b.thr := ⟨_, rfl⟩
        rw [← hjn] at HN HJ
        clear hf hjn
        gi_wp2_with fail
        refine ⟨trivial, callsIn_wide.2 ?_⟩
        refine HJ.out.mono ?_
        rintro e w7 ⟨rfl, hb7⟩
        have HKD7 := Lib.hid ((hb7.block D (lt_heap HKD.out)).trans HKD.out)
        have HW7 := Lib.hid (HWW.out.trans (hb7.mono HWW.out.size))
        clear hb7
        gi_wp2_with fail
        refine leave_marks _ _ (MarksIn.one (n₀ := w.heap.size) (Nat.le_trans HBW.out.size HDD.out) HKD7.out) (Nat.le_trans HW7.out.size (Nat.le_refl _)) (fun w' hc hb => ?_)
        refine ⟨_, by simp [results, Try.f31, go_sem]; rfl, ?_, HW7.out.trans hb⟩
        rw [HN.out]
    case stop =>
      rintro D c' pre W - - h -
      exact h.elim
end Go.Proofs.Ytgaanndidcdbpaa
/- Missing: the clubs whose number is not known. -/
namespace Go.Proofs.Ytgaanndidcdbpaa
open Go.RowKit Go.Shelf

def missL (b : BeaD) (k : Nat) : List Int := (b.clubs.take k).filter fun c => !(numberD b c).2
def missD (b : BeaD) : List Int × Int := if chkD b = 0 then (missL b b.clubs.length, 0) else ([], chkD b)
theorem missL_zero (b : BeaD) : missL b 0 = [] := rfl
theorem missL_yes {b : BeaD} {k : Nat} (hk : k < b.clubs.length) (h : (numberD b (nthI b.clubs k)).2 = false) : missL b (k + 1) = missL b k ++ [nthI b.clubs k] := by
  unfold missL
  have e : nthI b.clubs k = b.clubs[k] := nthI_get hk
  rw [List.take_add_one, List.getElem?_eq_getElem hk, List.filter_append]
  rw [e] at h ⊢
  simp [h]
theorem missL_no {b : BeaD} {k : Nat} (hk : k < b.clubs.length) (h : (numberD b (nthI b.clubs k)).2 = true) : missL b (k + 1) = missL b k := by
  unfold missL
  have e : nthI b.clubs k = b.clubs[k] := nthI_get hk
  rw [List.take_add_one, List.getElem?_eq_getElem hk, List.filter_append]
  rw [e] at h
  simp [h]
theorem missL_len (b : BeaD) (k : Nat) : (missL b k).length ≤ k := Nat.le_trans (List.length_filter_le _ _) (by rw [List.length_take]; omega)
def MissE (w : World) (R : List Int × Int) (e : Ending) (w' : World) : Prop := ∃ v, e = .returned (.tuple #[v, .int .i64 R.2]) ∧ IsInts w' (fun q => w.heap.size ≤ q) v R.1 ∧ Below w.heap.size w w'
theorem IsInts.one (w : World) (x : Int) : IsInts (w.alloc (.cells #[.int .i64 x] 3 (0, 0))) TT (.slice (some ⟨w.heap.size, 0, none⟩) 1 1) [x] := by
  refine ⟨some ⟨w.heap.size, 0, none⟩, 1, rfl, by simp, by simp, fun _ => ⟨w.heap.size, 0, rfl, trivial, fun i j hi hj => ?_⟩⟩
  have hi0 : i = 0 := by simp at hi; exact hi
  have hj0 : j = 0 := by omega
  subst hi0 hj0
  exact cell_of (j := 0) (heap_alloc_new _ _) rfl
set_option maxRecDepth 20000 in
set_option maxHeartbeats 4000000 in
theorem missing_any (w : World) (M : Nat → Prop) (v : Value) (b : BeaD) (h : IsBea w M v b) (hs : SmallB b) : Calls Try.prog 14 #[v] w (MissE w (missD b)) := by
  have HS := Lib.hid hs
  obtain ⟨cA, cc, kA, kc, rA, rc, oA, oc, rfl, i1, i2, i3, i4⟩ := h.parts
  have HI1 := Lib.hid i1
  have D1 := Lib.hid (fun (W : World) (hW : Below w.heap.size w W) => Lib.hid (bcheck_any W M _ b (h.below hW) hs))
  have D2 := Lib.hid (fun (W : World) (hW : Below w.heap.size w W) => Lib.hid (open_any W M _ b (h.below hW) hs))
  have D3 := Lib.hid (fun (W : World) (vb : Value) (hb : IsBoard W M vb b) (c : Int) => Lib.hid (number_any W M vb b hb c ⟨hs.re, hs.op⟩))
  obtain ⟨R, hR⟩ : ∃ R, R = missD b := ⟨_, rfl⟩
  have HR := Lib.hid hR
  rw [← hR]
  obtain ⟨ck, hck⟩ : ∃ z, z = chkD b := ⟨_, rfl⟩
  have HCK := Lib.hid hck
  rw [← hck] at D1
  have hcl : b.clubs.length ≤ 1000 := hs.cl
  clear h hs i1 i2 i3 i4 hR hck
  go_enter Try.func14, Try.ntmps14
  go_wp2_with fail
  refine nameW fun W1 hW1 => ?_
  have hb1 : Below w.heap.size w W1 := by rw [hW1.out]; exact (Below.refl _ _).alloc (Nat.le_refl _) _
  have k0 : W1.heap[w.heap.size]? = some (.cells #[.slice cA b.clubs.length cc, .int .i64 b.thr, .int .u64 (b.rng : Int), .slice kA b.coms.length kc, .slice rA b.revs.length rc, .slice oA b.opns.length oc] 32 (0, 0)) := by rw [hW1.out]; exact heap_alloc_new _ _
  refine (D1.out W1 hb1).out.mono ?_
  rintro e w2 ⟨rfl, hb2⟩
  have HB2 := Lib.hid (hb1.trans (hb2.mono hb1.size))
  have k2 := (hb2.block _ (lt_heap k0)).trans k0
  have HK2 := Lib.hid k2
  have c0 := cell_of (j := 0) k2 rfl
  have c1 := cell_of (j := 1) k2 rfl
  have c2 := cell_of (j := 2) k2 rfl
  have c3 := cell_of (j := 3) k2 rfl
  have c4 := cell_of (j := 4) k2 rfl
  have c5 := cell_of (j := 5) k2 rfl
  clear hb1 k0 hW1 hb2 k2
  by_cases hok : ck = 0
  · subst hok
    have HRX : Hid (R = (missL b b.clubs.length, 0)) := Lib.hid (by rw [HR.out]; unfold missD; rw [if_pos HCK.out.symm])
    go_wp2_with fail
    refine (D2.out _ HB2.out).out.mono ?_
    rintro e w3 ⟨vb, rfl, hbo, hb3⟩
    have HBO := Lib.hid hbo
    obtain ⟨dA, dc, lA, lc, sA, sc, pA, pc, bp, bc, rfl, -⟩ := hbo.parts
    have k3 := (hb3.block _ (lt_heap HK2.out)).trans HK2.out
    have HB3 := Lib.hid (HB2.out.trans (hb3.mono HB2.out.size))
    have HK3 := Lib.hid k3
    clear hb3 hbo c0 c1 c2 c3 c4 c5
    clear k3
    go_upto_region 5 with fail
    refine nameC fun W0 hW0 => ?_
    have hB0 : Below w3.heap.size w3 W0 := by rw [hW0.out]; exact (Below.refl _ _).alloc (Nat.le_refl _) _
    have hz0 : W0.heap.size = w3.heap.size + 1 := by rw [hW0.out]; simp
    have k5 : W0.heap[w3.heap.size]? = some (.cells #[.slice dA b.clubs.length dc, .int .i64 b.thr, .int .u64 (b.rng : Int), .slice lA b.coms.length lc, .slice sA b.revs.length sc, .slice pA b.opns.length pc, .map (some bp), .map (some bc), .bool (doneB b)] 89 (0, 0)) := by rw [hW0.out]; exact heap_alloc_new _ _
    have kb := (hB0.block _ (lt_heap HK3.out)).trans HK3.out
    have c0 := cell_of (j := 0) kb rfl
    have HB0 := Lib.hid (HB3.out.trans (hB0.mono HB3.out.size))
    have HBO0 := Lib.hid (IsBoard.below HBO.out hB0)
    have HI0 : Hid (IsInts W0 M (.slice cA b.clubs.length cc) b.clubs) := Lib.hid (IsSl.below HI1.out HB0.out)
    have HK5 := Lib.hid k5
    clear hW0 hB0 kb k5
    have hgx : w.heap.size < W0.heap.size := by have := HB3.out.size; omega
    go_wp2_with fail
    go_loopw [2, 20] (fun s2 s20 wr => ∃ (k : Nat) (A : Option Addr) (d : Nat), k ≤ b.clubs.length ∧ s20 = .int .i64 (k : Int) ∧ s2 = .slice A (missL b k).length d ∧ Hid (wr.ownsRow W0.heap.size 3 1 (.slice A (missL b k).length d) (missL b k).length ((missL b k).map i64v)) ∧ Hid (Below W0.heap.size W0 wr)) (fun _ s20 _ => b.clubs.length - (intOf s20).toNat)
    case atStart => exact ⟨0, none, 0, Nat.zero_le _, rfl, rfl, Lib.hid (own_nil _ _ _ _), Lib.hid (Below.refl _ _)⟩
    case round =>
      obtain ⟨k, A, d, hk, rfl, rfl, HO, HB⟩ := hrel
      by_cases hlt : k < b.clubs.length
      · have hk1 : (k : Int) < (b.clubs.length : Int) := by omega
        have hk0 : (0 : Int) ≤ (k : Int) := by omega
        obtain ⟨gb, off, rfl, hgb, hcs⟩ := HI0.out.at_ HB.out hlt
        have k6 := (HB.out.block _ (by have := HB3.out.size; omega)).trans HK5.out
        have c0 := cell_of (j := 0) k6 rfl
        have c1 := cell_of (j := 1) k6 rfl
        have c2 := cell_of (j := 2) k6 rfl
        have c3 := cell_of (j := 3) k6 rfl
        have c4 := cell_of (j := 4) k6 rfl
        have c5 := cell_of (j := 5) k6 rfl
        have c6 := cell_of (j := 6) k6 rfl
        have c7 := cell_of (j := 7) k6 rfl
        have c8 := cell_of (j := 8) k6 rfl
        have hszr := HB.out.size
        obtain ⟨xc, hxc⟩ : ∃ z, z = nthI b.clubs k := ⟨_, rfl⟩
        rw [← hxc] at hcs
        have HXC := Lib.hid hxc
        clear k6 hxc
        go_wp2_with fail
        refine (D3.out _ _ (IsBoard.below HBO0.out HB.out) xc).out.mono ?_
        rintro e w4 ⟨rfl, hb4⟩
        have HB4 := Lib.hid (HB.out.trans (hb4.mono HB.out.size))
        have HO4 := Lib.hid (own_below HO.out hb4 (Nat.le_refl _))
        clear hb4 c0 c1 c2 c3 c4 c5 c6 c7 c8
        by_cases hy : (numberD b xc).2 = true
        · have HN : Hid (missL b (k + 1) = missL b k) := Lib.hid (missL_no hlt (by rw [← HXC.out]; exact hy))
          go_wp2_with fail
          go_roundw
          case rel => exact ⟨k + 1, A, d, by omega, by go_num, by rw [HN.out], Lib.hid (by rw [HN.out]; exact HO4.out), HB4⟩
          case measure => simp [intOf]; omega
        · have hy : (numberD b xc).2 = false := by simpa using hy
          have HN : Hid (missL b (k + 1) = missL b k ++ [xc]) := Lib.hid (by rw [HXC.out]; exact missL_yes hlt (by rw [← HXC.out]; exact hy))
          have hml := missL_len b k
          go_wp2_with (at_builtin; apply Mk.of)
          unfold Mk
          refine wpList_ints rfl (.tmp 32) (.tmp 34) rfl W0.heap.size (missL b k) [xc] rfl (HO4.out.alloc _) rfl (IsInts.one w4 xc) (by simp; omega) (by simp; have := HB4.out.size; omega) ?_
          intro A6 d6 w6 hw6
          have HW6 := Lib.hid (And.intro hw6.out.1 ((HB4.out.alloc HB4.out.size _).trans hw6.out.2.1))
          clear hw6
          go_wp2_with fail
          go_roundw
          case rel => exact ⟨k + 1, A6, d6, by omega, by go_num, by rw [HN.out, List.length_append]; rfl, Lib.hid (by rw [HN.out]; exact HW6.out.1), Lib.hid HW6.out.2⟩
          case measure => simp [intOf]; omega
      · obtain rfl : k = b.clubs.length := by omega
        have hk1 : ¬ (b.clubs.length : Int) < (b.clubs.length : Int) := by omega
        go_wp2_with fail
        go_ret2
        rw [HRX.out]
        exact ⟨_, rfl, IsSl.mono (IsInts.ofOwn HO.out) (fun q _ h => by omega) (by omega), HB0.out.trans (HB.out.mono HB0.out.size)⟩
  · have b0 : (ck != 0) = true := by simpa using hok
    have HRX : Hid (R = ([], ck)) := Lib.hid (by rw [HR.out, HCK.out]; unfold missD; rw [if_neg (by rw [← HCK.out]; exact hok)])
    clear hok
    go_wp2_with fail
    go_ret2
    rw [HRX.out]
    exact ⟨_, rfl, IsSl.nil, HB2.out⟩
end Go.Proofs.Ytgaanndidcdbpaa
/- Number: the sum of the numbers of all clubs. -/
namespace Go.Proofs.Ytgaanndidcdbpaa
open Go.RowKit Go.Shelf

def nsumTo (b : BeaD) : Nat → Nat
  | 0 => 0
  | k + 1 => (nsumTo b k + (numberD b (nthI b.clubs k)).1 % b.rng) % b.rng
def numD (b : BeaD) : Nat × Int := if (missD b).2 ≠ 0 then (0, (missD b).2) else if 0 < (missD b).1.length then (0, 242) else (nsumTo b b.clubs.length, 0)
theorem nsumTo_lt (b : BeaD) (h : 1 ≤ b.rng) (k : Nat) : nsumTo b k < b.rng := by
  cases k with
  | zero => exact h
  | succ k => exact Nat.mod_lt _ h
theorem sum_wrap {q nx rg : Nat} (h : q < rg) (h2 : rg ≤ 1152921504606846976) : (IntKind.u64.wrap ((q : Int) + (nx : Int) % (rg : Int))).tmod (rg : Int) = (((q + nx % rg) % rg : Nat) : Int) := by
  have h3 : nx % rg < rg := Nat.mod_lt _ (by omega)
  have e : (q : Int) + (nx : Int) % (rg : Int) = ((q + nx % rg : Nat) : Int) := by push_cast; rfl
  rw [e]
  rw [w64n _ (by omega)]
  rfl
theorem chk_new {b : BeaD} (h : chkD b = 0) : NewOk b.clubs b.thr b.rng := by
  have h0 : chkTo b 8 := by unfold chkD at h; split at h; assumption; cases h
  have := h0 0 (by omega)
  simpa [condB, newB] using this
set_option maxRecDepth 20000 in
set_option maxHeartbeats 1000000 in
theorem number2_any (w : World) (M : Nat → Prop) (v : Value) (b : BeaD) (h : IsBea w M v b) (hs : SmallB b) : Calls Try.prog 13 #[v] w (NumE w (numD b)) := by
  have HS := Lib.hid hs
  obtain ⟨cA, cc, kA, kc, rA, rc, oA, oc, rfl, i1, i2, i3, i4⟩ := h.parts
  have HI1 := Lib.hid i1
  have D1 := Lib.hid (fun (W : World) (hW : Below w.heap.size w W) => Lib.hid (missing_any W M _ b (h.below hW) hs))
  have D2 := Lib.hid (fun (W : World) (hW : Below w.heap.size w W) => Lib.hid (open_any W M _ b (h.below hW) hs))
  have D3 := Lib.hid (fun (W : World) (vb : Value) (hb : IsBoard W M vb b) (c : Int) => Lib.hid (number_any W M vb b hb c ⟨hs.re, hs.op⟩))
  obtain ⟨R, hR⟩ : ∃ R, R = numD b := ⟨_, rfl⟩
  have HR := Lib.hid hR
  rw [← hR]
  obtain ⟨mz, hmz⟩ : ∃ z, z = missD b := ⟨_, rfl⟩
  have HMZ := Lib.hid hmz
  rw [← hmz] at D1
  have hcl : b.clubs.length ≤ 1000 := hs.cl
  have hml : mz.1.length ≤ 1000 := by
    rw [hmz]; unfold missD; split
    · exact Nat.le_trans (missL_len _ _) hcl
    · simp
  clear h hs i1 i2 i3 i4 hR hmz
  go_enter Try.func13, Try.ntmps13
  go_wp2_with fail
  refine nameW fun W1 hW1 => ?_
  have hb1 : Below w.heap.size w W1 := by rw [hW1.out]; exact (Below.refl _ _).alloc (Nat.le_refl _) _
  have k0 : W1.heap[w.heap.size]? = some (.cells #[.slice cA b.clubs.length cc, .int .i64 b.thr, .int .u64 (b.rng : Int), .slice kA b.coms.length kc, .slice rA b.revs.length rc, .slice oA b.opns.length oc] 32 (0, 0)) := by rw [hW1.out]; exact heap_alloc_new _ _
  refine (D1.out W1 hb1).out.mono ?_
  rintro e w2 ⟨mv, rfl, hmv, hb2⟩
  obtain ⟨mA, mc, rfl, -⟩ := hmv
  have HB2 := Lib.hid (hb1.trans (hb2.mono hb1.size))
  have k2 := (hb2.block _ (lt_heap k0)).trans k0
  have HK2 := Lib.hid k2
  have c0 := cell_of (j := 0) k2 rfl
  have c1 := cell_of (j := 1) k2 rfl
  have c2 := cell_of (j := 2) k2 rfl
  have c3 := cell_of (j := 3) k2 rfl
  have c4 := cell_of (j := 4) k2 rfl
  have c5 := cell_of (j := 5) k2 rfl
  clear hb1 k0 hW1 hb2 k2
  obtain ⟨ml, z⟩ := mz
  dsimp only at hml ⊢
  by_cases hok : z = 0
  · subst hok
    by_cases hm0 : 0 < ml.length
    · have hm1 : (0 : Int) < (ml.length : Int) := by omega
      have HRX : Hid (R = (0, 242)) := Lib.hid (by rw [HR.out]; unfold numD; rw [← HMZ.out]; dsimp only; rw [if_neg (by simp), if_pos hm0])
      clear hm0
      go_wp2_with fail
      go_ret2
      rw [HRX.out]
      exact ⟨rfl, HB2.out⟩
    · have hm1 : ¬ (0 : Int) < (ml.length : Int) := by omega
      have HRX : Hid (R = (nsumTo b b.clubs.length, 0)) := Lib.hid (by rw [HR.out]; unfold numD; rw [← HMZ.out]; dsimp only; rw [if_neg (by simp), if_neg hm0])
      obtain rfl : ml = [] := List.eq_nil_of_length_eq_zero (by omega)
      have HNO : Hid (NewOk b.clubs b.thr b.rng) := Lib.hid (by
        refine chk_new (Classical.byContradiction fun hh => ?_)
        have := HMZ.out
        unfold missD at this
        rw [if_neg hh] at this
        simp at this
        exact hh this.symm)
      clear hm0
      go_wp2_with fail
      refine (D2.out _ HB2.out).out.mono ?_
      rintro e w3 ⟨vb, rfl, hbo, hb3⟩
      have HBO := Lib.hid hbo
      obtain ⟨dA, dc, lA, lc, sA, sc, pA, pc, bp, bc, rfl, -⟩ := hbo.parts
      have k3 := (hb3.block _ (lt_heap HK2.out)).trans HK2.out
      have HB3 := Lib.hid (HB2.out.trans (hb3.mono HB2.out.size))
      have HK3 := Lib.hid k3
      clear hb3 hbo c0 c1 c2 c3 c4 c5
      clear k3
      go_upto_region 7 with fail
      refine nameC fun W0 hW0 => ?_
      have hB0 : Below w3.heap.size w3 W0 := by rw [hW0.out]; exact (Below.refl _ _).alloc (Nat.le_refl _) _
      have hz0 : W0.heap.size = w3.heap.size + 1 := by rw [hW0.out]; simp
      have k5 : W0.heap[w3.heap.size]? = some (.cells #[.slice dA b.clubs.length dc, .int .i64 b.thr, .int .u64 (b.rng : Int), .slice lA b.coms.length lc, .slice sA b.revs.length sc, .slice pA b.opns.length pc, .map (some bp), .map (some bc), .bool (doneB b)] 89 (0, 0)) := by rw [hW0.out]; exact heap_alloc_new _ _
      have kb := (hB0.block _ (lt_heap HK3.out)).trans HK3.out
      have c0 := cell_of (j := 0) kb rfl
      have HKB := Lib.hid kb
      have HB0 := Lib.hid (HB3.out.trans (hB0.mono HB3.out.size))
      have HBO0 := Lib.hid (IsBoard.below HBO.out hB0)
      have HI0 : Hid (IsInts W0 M (.slice cA b.clubs.length cc) b.clubs) := Lib.hid (IsSl.below HI1.out HB0.out)
      have HK5 := Lib.hid k5
      clear hW0 hB0 kb k5
      have hgx : w.heap.size < W0.heap.size := by have := HB3.out.size; omega
      obtain ⟨rg, hrg⟩ : ∃ r, r = b.rng := ⟨_, rfl⟩
      have hr1 : 1 ≤ rg := by rw [hrg]; exact HNO.out.o1
      have HR2 : Hid (rg ≤ 1152921504606846976) := Lib.hid (by rw [hrg]; exact HNO.out.o60)
      have HSL : Hid (∀ k, nsumTo b k < rg) := Lib.hid (fun k => by rw [hrg]; exact nsumTo_lt b HNO.out.o1 k)
      have HSS : Hid (∀ k, nsumTo b (k + 1) = (nsumTo b k + (numberD b (nthI b.clubs k)).1 % rg) % rg) := Lib.hid (fun k => by rw [hrg]; rfl)
      rw [← hrg] at HKB HK5 HBO0 ⊢
      clear hrg
      go_wp2_with fail
      go_loopw [2, 26] (fun s2 s26 wr => ∃ k : Nat, k ≤ b.clubs.length ∧ s26 = .int .i64 (k : Int) ∧ s2 = .int .u64 ((nsumTo b k : Nat) : Int) ∧ Hid (Below W0.heap.size W0 wr)) (fun _ s26 _ => b.clubs.length - (intOf s26).toNat)
      case atStart => exact ⟨0, Nat.zero_le _, rfl, rfl, Lib.hid (Below.refl _ _)⟩
      case round =>
        obtain ⟨k, hk, rfl, rfl, HB⟩ := hrel
        by_cases hlt : k < b.clubs.length
        · have hk1 : (k : Int) < (b.clubs.length : Int) := by omega
          have hk0 : (0 : Int) ≤ (k : Int) := by omega
          obtain ⟨gb, off, rfl, hgb, hcs⟩ := HI0.out.at_ HB.out hlt
          have k6 := (HB.out.block _ (by have := HB3.out.size; omega)).trans HK5.out
          have c0 := cell_of (j := 0) k6 rfl
          have c1 := cell_of (j := 1) k6 rfl
          have c2 := cell_of (j := 2) k6 rfl
          have c3 := cell_of (j := 3) k6 rfl
          have c4 := cell_of (j := 4) k6 rfl
          have c5 := cell_of (j := 5) k6 rfl
          have c6 := cell_of (j := 6) k6 rfl
          have c7 := cell_of (j := 7) k6 rfl
          have c8 := cell_of (j := 8) k6 rfl
          obtain ⟨xc, hxc⟩ : ∃ z, z = nthI b.clubs k := ⟨_, rfl⟩
          rw [← hxc] at hcs
          have HX := Lib.hid (HSS.out k)
          rw [← hxc] at HX
          obtain ⟨q, hq⟩ : ∃ q, q = nsumTo b k := ⟨_, rfl⟩
          have hql : q < rg := by rw [hq]; exact HSL.out k
          rw [← hq] at HX ⊢
          clear k6 hxc hq
          go_wp2_with fail
          refine (D3.out _ _ (IsBoard.below HBO0.out HB.out) xc).out.mono ?_
          rintro e w4 ⟨rfl, hb4⟩
          have HB4 := Lib.hid (HB.out.trans (hb4.mono HB.out.size))
          obtain ⟨nx, hnx⟩ : ∃ q, q = (numberD b xc).1 := ⟨_, rfl⟩
          obtain ⟨nb, hnb⟩ : ∃ q, q = (numberD b xc).2 := ⟨_, rfl⟩
          rw [← hnx] at HX ⊢
          rw [← hnb]
          have kr := (HB4.out.block _ (by omega)).trans HKB.out
          have y2 := cell_of (j := 2) kr rfl
          have hr0 : (rg : Int) ≠ 0 := by omega
          clear hb4 c0 c1 c2 c3 c4 c5 c6 c7 c8 hnx hnb kr
          go_upto_region 11 with fail
          go_quiet (fail)
          have HSW := Lib.hid (sum_wrap (nx := nx) hql HR2.out)
          go_wp2_with fail
          go_roundw
          case rel => exact ⟨k + 1, by omega, by go_num, by rw [HX.out, HSW.out], Lib.hid (below_drewN HB4.out _)⟩
          case measure => simp [intOf]; omega
        · obtain rfl : k = b.clubs.length := by omega
          have hk1 : ¬ (b.clubs.length : Int) < (b.clubs.length : Int) := by omega
          go_wp2_with fail
          go_ret2
          rw [HRX.out]
          exact ⟨rfl, HB0.out.trans (HB.out.mono HB0.out.size)⟩
  · have b0 : (z != 0) = true := by simpa using hok
    have HRX : Hid (R = (0, z)) := Lib.hid (by rw [HR.out]; unfold numD; rw [← HMZ.out]; dsimp only; rw [if_pos hok])
    clear hok
    go_wp2_with fail
    go_ret2
    rw [HRX.out]
    exact ⟨rfl, HB2.out⟩
end Go.Proofs.Ytgaanndidcdbpaa
