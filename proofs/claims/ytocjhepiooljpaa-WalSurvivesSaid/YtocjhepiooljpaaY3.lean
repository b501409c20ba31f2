/- A round of WalSurvives: the crash's box, the log's box. -/
import Derived.Test.YtocjhepiooljpaaY2
import Derived.Test.YtocjhepiooljpaaR2
namespace Go.Proofs.Ytocjhepiooljpaa
open Go.RowKit Go.Deep Go.Shelf

theorem CrsC.at_ {w wr : World} {M : Nat → Prop} {A : Option Addr} {cs : List CrD} {k : Nat} (h : CrsC w M A cs) (hb : Below w.heap.size w wr) (hk : k < cs.length) :
    ∃ b off u, A = some ⟨b, off, none⟩ ∧ b < w.heap.size ∧ wr.cell? ⟨b, off + k * 3, none⟩ = some u ∧ wr.cell? ⟨b, off + k * 3 + 1, none⟩ = some (.bool (cs[k]).stop) ∧ wr.cell? ⟨b, off + k * 3 + 2, none⟩ = some (byt (cs[k]).left) ∧ IsMat w M u (cs[k]).recs := by
  obtain ⟨vs, h1, h2⟩ := h
  obtain ⟨b, off, e, -, hc⟩ := h1 (by omega)
  have a0 := hc k 0 hk (by omega)
  have a1 := hc k 1 hk (by omega)
  have a2 := hc k 2 hk (by omega)
  have hl : b < w.heap.size := lt_of_cell a0
  have hm := h2 k hk
  have hg : cs.getD k c0 = cs[k] := by rw [List.getD_eq_getElem?_getD, List.getElem?_eq_getElem hk, Option.getD_some]
  rw [hg] at hm
  simp only [hg, Nat.add_zero, if_true] at a0 a1 a2
  exact ⟨b, off, vs k, e, hl, (hb.cell (p := ⟨b, _, none⟩) hl).trans a0, (hb.cell (p := ⟨b, _, none⟩) hl).trans (by simpa using a1), (hb.cell (p := ⟨b, _, none⟩) hl).trans (by simpa using a2), hm⟩
/-- fewer boxes -/
theorem SvS.less {w W : World} {n5 : Nat} {l l' : List Nat} {x0 x1 x2 x3 : Value} {D : DiskD} {kv : Value} {ks : List (List UInt8)} (h : SvS w n5 l x0 x1 x2 x3 D kv ks W) (hl : ∀ b ∈ l', b ∈ l) (h5 : n5 ∈ l') : SvS w n5 l' x0 x1 x2 x3 D kv ks W :=
  ⟨h.b5, h.disk.mono fun b _ hb e => hb (hl b e), h.kept.mono fun b _ hb e => hb (hl b e), h.below, h.low, h5, fun b hb => h.inw b (hl b hb), fun b hb => h.all b (hl b hb)⟩
/-- other kept records -/
theorem SvS.keeps {w W : World} {n5 : Nat} {l : List Nat} {x0 x1 x2 x3 : Value} {D : DiskD} {kv kv' : Value} {ks ks' : List (List UInt8)} (h : SvS w n5 l x0 x1 x2 x3 D kv ks W) (hk : IsMat W (NB l) kv' ks') : SvS w n5 l x0 x1 x2 x3 D kv' ks' W :=
  ⟨h.b5, h.disk, hk, h.below, h.low, h.mem, h.inw, h.all⟩
/-- what a round of WalSurvives keeps in memory -/
structure RvS (w : World) (n5 n9 n10 : Nat) (x0 x1 x2 x3 : Value) (E : DiskD) (kv : Value) (ks : List (List UInt8)) (mv : Value) (c : CrD) (D : DiskD) (acc : List (List UInt8)) (rA : Option Addr) (n rc : Nat) (W : World) : Prop where
  sv : SvS w n5 [n10, n9, n5] x0 x1 x2 x3 E kv ks W
  b9 : W.heap[n9]? = some (.cells #[mv, .bool c.stop, byt c.left] 55 (0, 0))
  b10 : W.heap[n10]? = some (.cells #[.int .i64 (D.sectors.length : Int), .slice rA n rc, .int .i64 ((recs D.sectors).length : Int)] 29 (0, 0))
  log : IsLog W (NB [n10, n9, n5]) (.agg #[.int .i64 (D.sectors.length : Int), .slice rA n rc, .int .i64 ((recs D.sectors).length : Int)]) (logOf D acc)
  ne9 : n9 ≠ n5
  ne10 : n10 ≠ n5
  ne : n10 ≠ n9
section
variable {w W W' : World} {n5 n9 n10 : Nat} {x0 x1 x2 x3 : Value} {E : DiskD} {kv : Value} {ks : List (List UInt8)} {mv : Value} {c : CrD} {D : DiskD} {acc : List (List UInt8)} {rA : Option Addr} {n rc : Nat}
theorem RvS.next (h : RvS w n5 n9 n10 x0 x1 x2 x3 E kv ks mv c D acc rA n rc W) (hb : Below W.heap.size W W') : RvS w n5 n9 n10 x0 x1 x2 x3 E kv ks mv c D acc rA n rc W' :=
  ⟨h.sv.next hb, (hb.block _ (lt_heap h.b9)).trans h.b9, (hb.block _ (lt_heap h.b10)).trans h.b10, h.log.below hb, h.ne9, h.ne10, h.ne⟩
/-- a log is stored -/
theorem RvS.append (h : RvS w n5 n9 n10 x0 x1 x2 x3 E kv ks mv c D acc rA n rc W) {rA' : Option Addr} {n' rc' : Nat} {acc' : List (List UInt8)}
    (hl : IsLog W (NB [n10, n9, n5]) (.agg #[.int .i64 (D.sectors.length : Int), .slice rA' n' rc', .int .i64 ((recs D.sectors).length : Int)]) (logOf D acc')) :
    RvS w n5 n9 n10 x0 x1 x2 x3 E kv ks mv c D acc' rA' n' rc' (((W.setCell ⟨n10, 0, none⟩ (.int .i64 (D.sectors.length : Int))).setCell ⟨n10, 1, none⟩ (.slice rA' n' rc')).setCell ⟨n10, 2, none⟩ (.int .i64 ((recs D.sectors).length : Int))) := by
  have hk : Off n10 W (((W.setCell ⟨n10, 0, none⟩ (.int .i64 (D.sectors.length : Int))).setCell ⟨n10, 1, none⟩ (.slice rA' n' rc')).setCell ⟨n10, 2, none⟩ (.int .i64 ((recs D.sectors).length : Int))) := (((Off.refl _ _).setCell 0 _).setCell 1 _).setCell 2 _
  have hb := Blk_set (Blk_set (Blk_set h.b10 (j := 0) (.int .i64 (D.sectors.length : Int))) (j := 1) (.slice rA' n' rc')) (j := 2) (.int .i64 ((recs D.sectors).length : Int))
  have hm : n10 ∈ [n10, n9, n5] := by simp
  refine ⟨((h.sv.other hm h.ne10 _ _).other hm h.ne10 _ _).other hm h.ne10 _ _, ?_, by rw [hb]; rfl, hl.keep fun p hp _ => hk p (fun e => hp (e ▸ hm)), h.ne9, h.ne10, h.ne⟩
  have hne := h.ne
  rw [heap_set_if, if_neg (fun e => hne e.symm), heap_set_if, if_neg (fun e => hne e.symm), heap_set_if, if_neg (fun e => hne e.symm)]
  exact h.b9
/-- a disk is stored -/
theorem RvS.store (h : RvS w n5 n9 n10 x0 x1 x2 x3 E kv ks mv c D acc rA n rc W) {y0 y1 y2 y3 : Value} {F : DiskD} (hd : IsDisk W (NB [n10, n9, n5]) (.agg #[y0, y1, y2, y3]) F) :
    RvS w n5 n9 n10 y0 y1 y2 y3 F kv ks mv c D acc rA n rc ((((W.setCell ⟨n5, 0, none⟩ y0).setCell ⟨n5, 1, none⟩ y1).setCell ⟨n5, 2, none⟩ y2).setCell ⟨n5, 3, none⟩ y3) := by
  have hk : Off n5 W ((((W.setCell ⟨n5, 0, none⟩ y0).setCell ⟨n5, 1, none⟩ y1).setCell ⟨n5, 2, none⟩ y2).setCell ⟨n5, 3, none⟩ y3) := ((((Off.refl _ _).setCell 0 y0).setCell 1 y1).setCell 2 y2).setCell 3 y3
  have hm : n5 ∈ [n10, n9, n5] := by simp
  have h9 := h.ne9
  have h10 := h.ne10
  refine ⟨h.sv.store hd, ?_, ?_, h.log.keep fun p hp _ => hk p (fun e => hp (e ▸ hm)), h.ne9, h.ne10, h.ne⟩
  · rw [heap_set_if, if_neg h9, heap_set_if, if_neg h9, heap_set_if, if_neg h9, heap_set_if, if_neg h9]; exact h.b9
  · rw [heap_set_if, if_neg h10, heap_set_if, if_neg h10, heap_set_if, if_neg h10, heap_set_if, if_neg h10]; exact h.b10
end
theorem setLeft_self {D : DiskD} {n g : Nat} (h : Wk D n g) : setLeft D (-1) = D := by
  have := h.left
  obtain ⟨a, b, c, d⟩ := D
  cases this
  rfl
theorem wk_stop {D : DiskD} {n g : Nat} (h : Wk D n g) {x : Int} (h1 : 0 ≤ x) (h2 : x ≤ 65536) : stopD D x = (setLeft D x, 0) := by
  unfold stopD
  rw [if_pos h.runs, if_pos ⟨h1, h2⟩]
  rfl
theorem IsLog.matR {w : World} {M : Nat → Prop} {a s r : Value} {l : LogD} (h : IsLog w M (.agg #[a, r, s]) l) : IsMat w M r l.recs := by
  obtain ⟨rv, e, h3⟩ := h
  simp only [Value.agg.injEq, Array.mk.injEq, List.cons.injEq, and_true] at e
  rw [e.2.1]; exact h3
/-- a round's end -/
theorem RvS.fin {w W : World} {n5 n9 n10 : Nat} {x0 x1 x2 x3 : Value} {E : DiskD} {kv kv' : Value} {ks ks' : List (List UInt8)} {mv : Value} {c : CrD} {D : DiskD} {acc : List (List UInt8)} {rA : Option Addr} {n rc : Nat} (h : RvS w n5 n9 n10 x0 x1 x2 x3 E kv ks mv c D acc rA n rc W) (hk : IsMat W (NB [n10, n9, n5]) kv' ks') : SvS w n5 [n5] x0 x1 x2 x3 E kv' ks' W :=
  (h.sv.keeps hk).less (by simp) (by simp)
theorem frz {w : World} {g j : Nat} {cs : Array Value} {t : TypeId} (h : w.heap[g]? = some (.cells cs t (0, 0))) : w.frozen? ⟨g, j, none⟩ = false := by simp [World.frozen?, h]
end Go.Proofs.Ytocjhepiooljpaa
