/- What the law TopDraw builds; its rounds. -/
import Derived.Test.YtgaanndidcdbpaaW4
import Derived.BigQuiet
namespace Go.Proofs.Ytgaanndidcdbpaa
open Go.RowKit Go.Shelf
end Go.Proofs.Ytgaanndidcdbpaa
namespace Go.Proofs.Ytgaanndidcdbpaa.Dw
open Go.RowKit
/-- the outcome with a number that there is -/
theorem outcome_has {d : DrawD} (h : checkB d = true) {k : Nat} (hk : k < Rn (mayD d) (nD d) 0) : ∃ l : List Int, outcomeD d k = (l, 0) ∧ numberD d l = (k, 0) := by
  have hl : k < (outsD d).length := by rw [outsD_len]; exact hk
  refine ⟨ofN (outsD d)[k], ?_, numberD_at h (List.getElem?_eq_getElem hl) rfl⟩
  rw [outcomeD_yes h hk, List.getD_eq_getElem?_getD, List.getElem?_eq_getElem hl]; rfl
end Go.Proofs.Ytgaanndidcdbpaa.Dw
namespace Go.Proofs.Ytgaanndidcdbpaa
open Go.RowKit Go.Shelf
theorem Try.info_Lsu : (Try.prog.info? 35).map (fun i => (i.zero, i.size, i.bytes)) = some (some (.slice none 0 0), 1, 24) := by kernel_rfl
theorem makeTab (n : Nat) (hn : n ≤ 4096) : ∃ cs, (∀ w, (Instr.makeSlice 24 (.int .i64 n) (.int .i64 n)).run Try.prog w = .ok (.slice (some ⟨w.heap.size, 0, none⟩) n n) (w.alloc (.cells cs 35))) ∧ ∀ w : World, (w.alloc (.cells cs 35)).rowIs w.heap.size 35 n (fun _ => .slice none 0 0) :=
  ⟨madeCells #[.slice none 0 0] n, fun w => run_make_row' (P := Try.prog) 24 35 (.slice none 0 0) 24 Try.underlying24 Try.info_Lsu rfl .i64 .i64 n (by omega) (by omega) w, fun w => World.rowIs_made w (.slice none 0 0) n 35⟩
theorem makeBos (n : Nat) (hn : n ≤ 4096) : ∃ cs, (∀ w, (Instr.makeSlice 74 (.int .i64 n) (.int .i64 n)).run Try.prog w = .ok (.slice (some ⟨w.heap.size, 0, none⟩) n n) (w.alloc (.cells cs 4))) ∧ ∀ w : World, (w.alloc (.cells cs 4)).rowIs w.heap.size 4 n (fun _ => .bool false) :=
  ⟨madeCells #[.bool false] n, fun w => run_make_row' (P := Try.prog) 74 4 (.bool false) 1 Try.underlying74 (by kernel_rfl) rfl .i64 .i64 n (by omega) (by omega) w, fun w => World.rowIs_made w (.bool false) n 4⟩
theorem makeBou (n : Nat) (hn : n ≤ 4096) : ∃ cs, (∀ w, (Instr.makeSlice 74 (.int .u64 n) (.int .u64 n)).run Try.prog w = .ok (.slice (some ⟨w.heap.size, 0, none⟩) n n) (w.alloc (.cells cs 4))) ∧ ∀ w : World, (w.alloc (.cells cs 4)).rowIs w.heap.size 4 n (fun _ => .bool false) :=
  ⟨madeCells #[.bool false] n, fun w => run_make_row' (P := Try.prog) 74 4 (.bool false) 1 Try.underlying74 (by kernel_rfl) rfl .u64 .u64 n (by omega) (by omega) w, fun w => World.rowIs_made w (.bool false) n 4⟩
/-- the polynomial of club i, as far as j -/
def gF (xs : List Nat) (T i j : Nat) : List Nat := (List.range j).map fun q => xs.getD (i * T + q) 0 % 1152921504606845789
theorem gF_len {xs : List Nat} {T i j : Nat} : (gF xs T i j).length = j := by simp [gF]
theorem gF_succ {xs : List Nat} {T i j : Nat} : gF xs T i (j + 1) = gF xs T i j ++ [xs.getD (i * T + j) 0 % 1152921504606845789] := by
  unfold gF; rw [List.range_succ, List.map_append]; rfl
theorem gF_lt {xs : List Nat} {T i j : Nat} : ∀ x ∈ gF xs T i j, x < 1152921504606845789 := fun x hx => by
  unfold gF at hx
  obtain ⟨q, -, rfl⟩ := List.mem_map.1 hx
  exact Nat.mod_lt _ (by decide)
theorem set0_mem {x : Nat} {l : List Nat} : ∀ y ∈ set0 x l, y = x ∨ y ∈ l := fun y hy => by
  unfold set0 at hy
  rcases List.mem_cons.1 hy with q | q
  · exact .inl q
  · exact .inr (List.mem_of_mem_tail q)
/-- the polynomials of a round are right -/
theorem psT_po {cl : List Int} {T of h x : Nat} {F : Nat → List Nat} (hn : NewOk cl (T : Int) of) (hF : ∀ r, r < cl.length → (F r).length = T ∧ ∀ y ∈ F r, y < 1152921504606845789) (hh : h < cl.length) (hx : x < 1152921504606845789) : Po cl (T : Int) of (psT cl.length h F x) := by
  have hT := hn.t1
  refine ⟨hn, psT_len, fun k hk => ?_, fun k hk y hy => ?_⟩
  · rw [psT_at hk]
    by_cases e : k = h
    · subst e
      rw [if_pos rfl, set0_len (by rw [(hF k hk).1]; omega), (hF k hk).1]
    · rw [if_neg e, (hF k hk).1]
  · rw [psT_at hk] at hy
    by_cases e : k = h
    · subst e
      rw [if_pos rfl] at hy
      rcases set0_mem y hy with q | q
      · rw [q]; exact hx
      · exact (hF k hk).2 y q
    · rw [if_neg e] at hy
      exact (hF k hk).2 y hy
/-- what the main loop starts with -/
theorem TS.start {w : World} {d : Dw.DrawD} {dv : Array Value} {gd gc ga gm base g0 : Nat} {cl : List Int} {cv sv : Value} {bs : List Bool} {n T N h : Nat} {X : Nat → Value} {F : Nat → List Nat}
    (hbox : w.heap[gd]? = some (.cells dv 73 (0, 0))) (hd : Dw.IsDraw w (fun q => q < gc) (.agg dv) d) (hc : IsInts w (fun q => q < gc) cv cl) (hs : IsBools w (fun q => q < gc) sv bs) (hcf : CfW w base gc n X F) (ha : w.rowIs ga 4 n (fun _ => .bool false)) (hm : w.rowIs gm 4 N (fun _ => .bool false))
    (hgd : gd < gc) (hga : g0 ≤ ga) (hgam : ga < gm) (hown : ∀ r, r < n → ∀ b, (X r).ownBlock = some b → b < g0) (hgc : gc < g0) (hh : h < n) (hlen : (F h).length = T) (hT : 0 < T) (hn : n ≤ 1000) :
    ∃ bh x0, base ≤ bh ∧ TS w d dv gd gc ga gm bh cl cv sv bs n T N h X F x0 (fun _ => false) := by
  have hO := hcf.own h hh
  rw [hlen] at hO
  rcases hO.2 with ⟨e0, e1⟩ | ⟨bh, cap, cur, e0, e1, e2, e3, e4, e5, e6⟩
  · omega
  have hOB : (X h).ownBlock = some bh := by rw [e0]; rfl
  have hbb := hown h hh bh hOB
  have hlt := hcf.lt
  refine ⟨bh, (F h).getD 0 0, e1, hbox, IsDrawM hd fun q hq => ⟨by omega, by omega⟩, IsSl.mono hc (fun q _ hq => ⟨by omega, by omega⟩) (by omega), IsSl.mono hs (fun q _ hq => ⟨by omega, by omega⟩) (by omega), ?_, hcf.box, fun r hr hne => ?_, ⟨cap, e0, e3, by unfold maxLen at e4; omega⟩, ⟨cur, _, e2, fun j hj => ?_⟩, ?_, ⟨hlen, hT, hh⟩, ⟨by omega, by omega, by omega, by omega, by omega⟩⟩
  · obtain ⟨cs, h1, -, h2⟩ := ha
    unfold IsBools
    rw [List.length_replicate]
    refine ⟨_, n, rfl, Nat.le_refl _, by omega, fun _ => ⟨ga, 0, rfl, ⟨by omega, by omega⟩, fun i j hi hj => ?_⟩⟩
    obtain rfl : j = 0 := by omega
    rw [Nat.zero_add, Nat.mul_one, Nat.add_zero]
    rw [cell_of h1 (h2 i hi)]
    show some (Value.bool false) = some (.bool ((List.replicate n false).getD i false))
    rw [List.getD_eq_getElem?_getD, List.getElem?_replicate]
    split <;> rfl
  · refine IsSl.mono (own_isU64 (hcf.own r hr)) (fun q _ hq => ⟨fun e => ?_, fun e => ?_⟩) (by omega)
    · subst e; exact hcf.sep h r hh hr (fun e => hne e.symm) _ hOB hq
    · have := hown r hr q hq; omega
  · have hjl : j < ((F h).map u64v).length := by rw [List.length_map, hlen]; exact hj
    have hc := hO.cells (g := bh) (by rw [e0]; rfl) j _ (List.getElem?_eq_getElem hjl)
    have hc' : w.cell? ⟨bh, 0 + j, none⟩ = some ((F h).map u64v)[j] := by
      have := hc
      first
        | exact this
        | (rw [addr_add] at this; exact this)
    rw [Nat.zero_add] at hc'
    have h9 : cur[j]? = some ((F h).map u64v)[j] := by
      have := hc'
      simp only [World.cell?, e2] at this
      exact this
    rw [h9, List.getElem_map]
    congr 1
    have hjl' : j < (F h).length := by rw [hlen]; exact hj
    show u64v (F h)[j] = u64v ((set0 ((F h).getD 0 0) (F h)).getD j 0)
    congr 1
    cases j with
    | zero => show _ = (F h).getD 0 0; rw [List.getD_eq_getElem?_getD, List.getElem?_eq_getElem hjl']; rfl
    | succ j => rw [set0_get, List.getD_eq_getElem?_getD, List.getElem?_eq_getElem hjl']; rfl
  · obtain ⟨cs, h1, -, h2⟩ := hm
    exact ⟨cs, h1, h2⟩
end Go.Proofs.Ytgaanndidcdbpaa
