import Derived.Test.YtocjhepiooljpaaR1
import Derived.Test.YtocjhepiooljpaaZv
import Derived.Test.YtocjhepiooljpaaA22
import Derived.Test.YtocjhepiooljpaaInts
import Derived.Test.YtocjhepiooljpaaAp
import Derived.Test.YtocjhepiooljpaaRf
/- The script of WalSurvives in memory, and how its row opens. -/
namespace Go.Proofs.Ytocjhepiooljpaa
open Go.ChangeShapes Go.WideShapes Go.ChangeAt Go.RowKit Go.Deep Go.Joins

theorem u8_of {n : Int} (h : (Lit.int .u8 n).wf = true) : ∃ m : Nat, n = (m : Int) ∧ m < 256 := by
  have hx : 0 ≤ n ∧ n ≤ 255 := by simpa [Lit.wf, IntKind.min, IntKind.max, IntKind.signed, IntKind.bits] using h
  exact ⟨n.toNat, by omega, by omega⟩
/-- a writing of records during which the disk may stop -/
structure CrD where
  recs : List (List UInt8)
  stop : Bool
  left : UInt8
def c0 : CrD := ⟨[], false, 0⟩
def CrsC (w : World) (M : Nat → Prop) (A : Option Addr) (cs : List CrD) : Prop :=
  ∃ vs : Nat → Value, Cells w M 3 A cs.length (fun i j => if j = 0 then vs i else if j = 1 then .bool (cs.getD i c0).stop else byt (cs.getD i c0).left) ∧ ∀ i, i < cs.length → IsMat w M (vs i) (cs.getD i c0).recs
def IsCrs (w : World) (M : Nat → Prop) (v : Value) (cs : List CrD) : Prop := ∃ A c, v = .slice A cs.length c ∧ cs.length ≤ c ∧ c ≤ 9223372036854775807 ∧ CrsC w M A cs
theorem Try.cells_cr : Try.prog.cellsOf 55 = 3 := by kernel_rfl
theorem Try.cells_u8 : Try.prog.cellsOf 5 = 1 := by kernel_rfl
theorem Try.cells_bool : Try.prog.cellsOf 4 = 1 := by kernel_rfl
theorem Try.cells_mat : Try.prog.cellsOf 22 = 1 := by kernel_rfl
section
variable {H : Type} {enc : TypeId × Value → H} {W : World} {base : Nat} {spare : Nat → Bool} {held : Bool}
theorem open_crs {fuel : Nat} {v : Value} {x : DataW H × List MemPlace} (h : DataW.trod enc Try.prog W base spare held fuel 53 [v] = some x) :
    ∃ cs : List CrD, IsCrs W (NB []) v cs ∧ (Sized x.1 53 → ∀ (i : Nat) (hi : i < cs.length), FitR (cs[i]).recs) := by
  rcases open_slice Try.underlying53 h with ⟨e, rfl⟩ | ⟨a, len, cap, m, n, D, Pl, e, hb, hl, hm, hmm, rfl, hi⟩
  · obtain rfl : v = .slice none 0 0 := by simpa using e
    exact ⟨[], ⟨none, 0, rfl, Nat.le_refl _, by omega, fun _ => .nilIface, fun h => absurd h (by simp), fun i h => absurd h (by simp)⟩, fun _ i hi => absurd hi (by simp)⟩
  · obtain rfl : v = .slice (some a) len cap := by simpa using e
    have hlm : len ≤ m := by rw [hmm]; split <;> omega
    rw [Try.cells_cr] at hi
    have hex : ∀ i, ∃ (u : Value) (y : CrD), i < len → W.cell? (a.add (i * 3)) = some u ∧ W.cell? ((a.add (i * 3)).add 1) = some (.bool y.stop) ∧ W.cell? ((a.add (i * 3)).add 2) = some (byt y.left) ∧ IsMat W (NB []) u y.recs ∧ (Sized (D i) 55 → FitR y.recs) := fun i => by
      by_cases hil : i < len
      · obtain ⟨cs', hc, ht⟩ := hi i (by omega)
        obtain ⟨_, hcl, hat⟩ := World.cells?_some hc
        obtain ⟨u0, u1, u2, rfl⟩ : ∃ u0 u1 u2, cs' = [u0, u1, u2] := by
          match cs', hcl with
          | [u0, u1, u2], _ => exact ⟨u0, u1, u2, rfl⟩
        obtain ⟨xs, n', -, hx, -, hxl, hf⟩ := DataW.trod_struct Try.underlying55 ht
        have h0 : DataW.trod enc Try.prog W base spare held n' 22 (([u0, u1, u2].drop 0).take (Try.prog.cellsOf 22)) = xs[0]? := hf 0 _ rfl
        have h1 : DataW.trod enc Try.prog W base spare held n' 4 (([u0, u1, u2].drop 1).take (Try.prog.cellsOf 4)) = xs[1]? := hf 1 _ rfl
        have h2 : DataW.trod enc Try.prog W base spare held n' 5 (([u0, u1, u2].drop 2).take (Try.prog.cellsOf 5)) = xs[2]? := hf 2 _ rfl
        rw [Try.cells_mat] at h0
        rw [Try.cells_bool] at h1
        rw [Try.cells_u8] at h2
        simp only [List.drop_zero, List.drop_succ_cons, List.take_succ_cons, List.take_zero] at h0 h1 h2
        match xs, hxl with
        | [x0, x1, x2], _ =>
          obtain ⟨rs, hr1, hr2, hr3, -⟩ := open_mat h0
          obtain ⟨b, hb, -⟩ := DataW.trod_bool Try.underlying4 h1
          obtain ⟨k, hk, -, hwf⟩ := DataW.trod_int Try.underlying5 h2
          obtain rfl : u1 = .bool b := by simpa using hb
          obtain rfl : u2 = .int .u8 k := by simpa using hk
          have e0 := hat 0 (by omega)
          have e1 := hat 1 (by omega)
          have e2 := hat 2 (by omega)
          rw [addr_add0] at e0
          have hD : D i = .agg [x0.1, x1.1, x2.1] := by have := congrArg Prod.fst hx; simpa using this
          have hz : Sized (D i) 55 → Sized x0.1 22 := fun hs q hq => hs q (by
            rw [hD]
            simp only [DataW.weights, Try.underlying55]
            exact weights_at (j := 0) rfl rfl hq)
          exact ⟨u0, ⟨rs, b, UInt8.ofNat k.toNat⟩, fun _ => ⟨by simpa using e0, by simpa using e1, by (show _ = some (byt (UInt8.ofNat k.toNat))); rw [byt_of hwf]; simpa using e2, hr1, fun hs => ⟨hr3 (hz hs), hr2 (hz hs)⟩⟩⟩
      · exact ⟨.nilIface, c0, fun h => absurd h hil⟩
    let U : Nat → Value := fun i => (hex i).choose
    let B : Nat → CrD := fun i => (hex i).choose_spec.choose
    have hUB : ∀ i, i < len → W.cell? (a.add (i * 3)) = some (U i) ∧ W.cell? ((a.add (i * 3)).add 1) = some (.bool (B i).stop) ∧ W.cell? ((a.add (i * 3)).add 2) = some (byt (B i).left) ∧ IsMat W (NB []) (U i) (B i).recs ∧ (Sized (D i) 55 → FitR (B i).recs) := fun i => (hex i).choose_spec.choose_spec
    refine ⟨(List.range len).map B, ⟨some a, cap, by simp, by simpa using hl, by simpa [maxLen] using hm, U, fun hn => ?_, fun i hi' => ?_⟩, fun hs i hi' => ?_⟩
    · simp at hn
      have h0 := (hUB 0 hn).1
      rw [Nat.zero_mul, addr_add0] at h0
      obtain ⟨b, off, sp⟩ := a
      obtain rfl : sp = none := spot_none h0
      refine ⟨b, off, rfl, nb0 _, fun i j hi' hj => ?_⟩
      simp at hi'
      obtain ⟨h1, h2, h3, -⟩ := hUB i hi'
      rw [add_mk] at h1 h2 h3
      rw [add_mk] at h2 h3
      have hj' : j = 0 ∨ j = 1 ∨ j = 2 := by omega
      rcases hj' with rfl | rfl | rfl
      · rw [Nat.add_zero, h1]; simp
      · rw [h2]; simp [List.getD_eq_getElem?_getD, hi']
      · rw [h3]; simp [List.getD_eq_getElem?_getD, hi']
    · simp at hi'
      have := (hUB i hi').2.2.2.1
      simpa [List.getD_eq_getElem?_getD, hi'] using this
    · simp at hi'
      simp only [List.getElem_map, List.getElem_range]
      refine (hUB i hi').2.2.2.2 fun q hq => hs q ?_
      simp only [DataW.weights, Try.underlying53]
      refine List.mem_cons_of_mem _ (List.mem_append_left _ ?_)
      exact weights_all (List.mem_map.2 ⟨i, List.mem_range.2 hi', rfl⟩) hq
end
end Go.Proofs.Ytocjhepiooljpaa
/- What WalSurvives keeps in memory: the disk's box, the records kept, the log's box. -/
namespace Go.Proofs.Ytocjhepiooljpaa
open Go.RowKit Go.Deep Go.Shelf

/-- the disk's box and the records kept, both outside of the boxes l -/
structure SvS (w : World) (n5 : Nat) (l : List Nat) (x0 x1 x2 x3 : Value) (D : DiskD) (kv : Value) (ks : List (List UInt8)) (W : World) : Prop where
  b5 : W.heap[n5]? = some (.cells #[x0, x1, x2, x3] 25 (0, 0))
  disk : IsDisk W (NB l) (.agg #[x0, x1, x2, x3]) D
  kept : IsMat W (NB l) kv ks
  below : Below w.heap.size w W
  low : w.heap.size ≤ n5
  mem : n5 ∈ l
  inw : InW l W
  all : ∀ b ∈ l, w.heap.size ≤ b
section
variable {w W W' : World} {n5 : Nat} {l : List Nat} {x0 x1 x2 x3 : Value} {D : DiskD} {kv : Value} {ks : List (List UInt8)}
theorem SvS.next (h : SvS w n5 l x0 x1 x2 x3 D kv ks W) (hb : Below W.heap.size W W') : SvS w n5 l x0 x1 x2 x3 D kv ks W' :=
  ⟨(hb.block _ (lt_heap h.b5)).trans h.b5, h.disk.below hb, h.kept.below hb, h.below.trans (hb.mono h.below.size), h.low, h.mem, h.inw.mono hb.size, h.all⟩
/-- one box more -/
theorem SvS.box (h : SvS w n5 l x0 x1 x2 x3 D kv ks W) (o : Obj) : SvS w n5 (W.heap.size :: l) x0 x1 x2 x3 D kv ks (W.alloc o) := by
  have hb : Below W.heap.size W (W.alloc o) := (Below.refl _ _).alloc (Nat.le_refl _) _
  refine ⟨(hb.block _ (lt_heap h.b5)).trans h.b5, (h.disk.mono fun b hlt hM => NB.cons hlt hM).below hb, (h.kept.mono fun b hlt hM => NB.cons hlt hM).below hb, h.below.trans (hb.mono h.below.size), h.low, List.mem_cons_of_mem _ h.mem, (h.inw.mono hb.size).cons (by simp), fun b hb => ?_⟩
  rcases List.mem_cons.1 hb with rfl | hb
  · exact h.below.size
  · exact h.all b hb
/-- a disk is stored -/
theorem SvS.store (h : SvS w n5 l x0 x1 x2 x3 D kv ks W) {y0 y1 y2 y3 : Value} {E : DiskD} (hd : IsDisk W (NB l) (.agg #[y0, y1, y2, y3]) E) :
    SvS w n5 l y0 y1 y2 y3 E kv ks ((((W.setCell ⟨n5, 0, none⟩ y0).setCell ⟨n5, 1, none⟩ y1).setCell ⟨n5, 2, none⟩ y2).setCell ⟨n5, 3, none⟩ y3) := by
  have hk : Off n5 W ((((W.setCell ⟨n5, 0, none⟩ y0).setCell ⟨n5, 1, none⟩ y1).setCell ⟨n5, 2, none⟩ y2).setCell ⟨n5, 3, none⟩ y3) := ((((Off.refl _ _).setCell 0 y0).setCell 1 y1).setCell 2 y2).setCell 3 y3
  have hx : ∀ b, NB l b → b ≠ n5 := fun b hb e => hb (e ▸ h.mem)
  have hlow := h.low
  refine ⟨set4 h.b5 _ _ _ _, hd.keep fun p hp _ => hk p (hx _ hp), h.kept.keep fun p hp _ => hk p (hx _ hp), ?_, h.low, h.mem, h.inw.mono (by simp only [size_set]; exact Nat.le_refl _), h.all⟩
  exact (((h.below.setCell hlow _).setCell hlow _).setCell hlow _).setCell hlow _
/-- another of the boxes is written -/
theorem SvS.other (h : SvS w n5 l x0 x1 x2 x3 D kv ks W) {g : Nat} (hg : g ∈ l) (hne : g ≠ n5) (j : Nat) (u : Value) : SvS w n5 l x0 x1 x2 x3 D kv ks (W.setCell ⟨g, j, none⟩ u) := by
  have hx : ∀ b, NB l b → b ≠ g := fun b hb e => hb (e ▸ hg)
  have hk : Off g W (W.setCell ⟨g, j, none⟩ u) := (Off.refl _ _).setCell j u
  refine ⟨by rw [heap_set_if, if_neg (fun e => hne e.symm)]; exact h.b5, h.disk.keep fun p hp _ => hk p (hx _ hp), h.kept.keep fun p hp _ => hk p (hx _ hp), h.below.setCell (h.all g hg) _, h.low, h.mem, h.inw.mono (by simp only [size_set]; exact Nat.le_refl _), h.all⟩
end
end Go.Proofs.Ytocjhepiooljpaa
/- A round of WalSurvives: the crash's box, the log's box. -/
namespace Go.Proofs.Ytocjhepiooljpaa
open Go.RowKit Go.Deep Go.Shelf

theorem CrsC.at_ {w wr : World} {M : Nat → Prop} {A : Option Addr} {cs : List CrD} {k : Nat} (h : CrsC w M A cs) (hb : Below w.heap.size w wr) (hk : k < cs.length) :
    ∃ b off u, A = some ⟨b, off, none⟩ ∧ b < w.heap.size ∧ wr.cell? ⟨b, off + k * 3, none⟩ = some u ∧ wr.cell? ⟨b, off + k * 3 + 1, none⟩ = some (.bool (cs[k]).stop) ∧ wr.cell? ⟨b, off + k * 3 + 2, none⟩ = some (byt (cs[k]).left) ∧ IsMat w M u (cs[k]).recs := by
  obtain ⟨vs, h1, h2⟩ := h
  obtain ⟨b, off, e, -, hc⟩ := h1 (by omega)
  have a0 := hc k 0 hk (by omega)
  have a1 := hc k 1 hk (by omega)
  have a2 := hc k 2 hk (by omega)
  have hl : b < w.heap.size := lt_of_cell a0
  have hm := h2 k hk
  have hg : cs.getD k c0 = cs[k] := by rw [List.getD_eq_getElem?_getD, List.getElem?_eq_getElem hk, Option.getD_some]
  rw [hg] at hm
  simp only [hg, Nat.add_zero, if_true] at a0 a1 a2
  exact ⟨b, off, vs k, e, hl, (hb.cell (p := ⟨b, _, none⟩) hl).trans a0, (hb.cell (p := ⟨b, _, none⟩) hl).trans (by simpa using a1), (hb.cell (p := ⟨b, _, none⟩) hl).trans (by simpa using a2), hm⟩
/-- fewer boxes -/
theorem SvS.less {w W : World} {n5 : Nat} {l l' : List Nat} {x0 x1 x2 x3 : Value} {D : DiskD} {kv : Value} {ks : List (List UInt8)} (h : SvS w n5 l x0 x1 x2 x3 D kv ks W) (hl : ∀ b ∈ l', b ∈ l) (h5 : n5 ∈ l') : SvS w n5 l' x0 x1 x2 x3 D kv ks W :=
  ⟨h.b5, h.disk.mono fun b _ hb e => hb (hl b e), h.kept.mono fun b _ hb e => hb (hl b e), h.below, h.low, h5, fun b hb => h.inw b (hl b hb), fun b hb => h.all b (hl b hb)⟩
/-- other kept records -/
theorem SvS.keeps {w W : World} {n5 : Nat} {l : List Nat} {x0 x1 x2 x3 : Value} {D : DiskD} {kv kv' : Value} {ks ks' : List (List UInt8)} (h : SvS w n5 l x0 x1 x2 x3 D kv ks W) (hk : IsMat W (NB l) kv' ks') : SvS w n5 l x0 x1 x2 x3 D kv' ks' W :=
  ⟨h.b5, h.disk, hk, h.below, h.low, h.mem, h.inw, h.all⟩
/-- what a round of WalSurvives keeps in memory -/
structure RvS (w : World) (n5 n9 n10 : Nat) (x0 x1 x2 x3 : Value) (E : DiskD) (kv : Value) (ks : List (List UInt8)) (mv : Value) (c : CrD) (D : DiskD) (acc : List (List UInt8)) (rA : Option Addr) (n rc : Nat) (W : World) : Prop where
  sv : SvS w n5 [n10, n9, n5] x0 x1 x2 x3 E kv ks W
  b9 : W.heap[n9]? = some (.cells #[mv, .bool c.stop, byt c.left] 55 (0, 0))
  b10 : W.heap[n10]? = some (.cells #[.int .i64 (D.sectors.length : Int), .slice rA n rc, .int .i64 ((recs D.sectors).length : Int)] 29 (0, 0))
  log : IsLog W (NB [n10, n9, n5]) (.agg #[.int .i64 (D.sectors.length : Int), .slice rA n rc, .int .i64 ((recs D.sectors).length : Int)]) (logOf D acc)
  ne9 : n9 ≠ n5
  ne10 : n10 ≠ n5
  ne : n10 ≠ n9
section
variable {w W W' : World} {n5 n9 n10 : Nat} {x0 x1 x2 x3 : Value} {E : DiskD} {kv : Value} {ks : List (List UInt8)} {mv : Value} {c : CrD} {D : DiskD} {acc : List (List UInt8)} {rA : Option Addr} {n rc : Nat}
theorem RvS.next (h : RvS w n5 n9 n10 x0 x1 x2 x3 E kv ks mv c D acc rA n rc W) (hb : Below W.heap.size W W') : RvS w n5 n9 n10 x0 x1 x2 x3 E kv ks mv c D acc rA n rc W' :=
  ⟨h.sv.next hb, (hb.block _ (lt_heap h.b9)).trans h.b9, (hb.block _ (lt_heap h.b10)).trans h.b10, h.log.below hb, h.ne9, h.ne10, h.ne⟩
/-- a log is stored -/
theorem RvS.append (h : RvS w n5 n9 n10 x0 x1 x2 x3 E kv ks mv c D acc rA n rc W) {rA' : Option Addr} {n' rc' : Nat} {acc' : List (List UInt8)}
    (hl : IsLog W (NB [n10, n9, n5]) (.agg #[.int .i64 (D.sectors.length : Int), .slice rA' n' rc', .int .i64 ((recs D.sectors).length : Int)]) (logOf D acc')) :
    RvS w n5 n9 n10 x0 x1 x2 x3 E kv ks mv c D acc' rA' n' rc' (((W.setCell ⟨n10, 0, none⟩ (.int .i64 (D.sectors.length : Int))).setCell ⟨n10, 1, none⟩ (.slice rA' n' rc')).setCell ⟨n10, 2, none⟩ (.int .i64 ((recs D.sectors).length : Int))) := by
  have hk : Off n10 W (((W.setCell ⟨n10, 0, none⟩ (.int .i64 (D.sectors.length : Int))).setCell ⟨n10, 1, none⟩ (.slice rA' n' rc')).setCell ⟨n10, 2, none⟩ (.int .i64 ((recs D.sectors).length : Int))) := (((Off.refl _ _).setCell 0 _).setCell 1 _).setCell 2 _
  have hb := Blk_set (Blk_set (Blk_set h.b10 (j := 0) (.int .i64 (D.sectors.length : Int))) (j := 1) (.slice rA' n' rc')) (j := 2) (.int .i64 ((recs D.sectors).length : Int))
  have hm : n10 ∈ [n10, n9, n5] := by simp
  refine ⟨((h.sv.other hm h.ne10 _ _).other hm h.ne10 _ _).other hm h.ne10 _ _, ?_, by rw [hb]; rfl, hl.keep fun p hp _ => hk p (fun e => hp (e ▸ hm)), h.ne9, h.ne10, h.ne⟩
  have hne := h.ne
  rw [heap_set_if, if_neg (fun e => hne e.symm), heap_set_if, if_neg (fun e => hne e.symm), heap_set_if, if_neg (fun e => hne e.symm)]
  exact h.b9
/-- a disk is stored -/
theorem RvS.store (h : RvS w n5 n9 n10 x0 x1 x2 x3 E kv ks mv c D acc rA n rc W) {y0 y1 y2 y3 : Value} {F : DiskD} (hd : IsDisk W (NB [n10, n9, n5]) (.agg #[y0, y1, y2, y3]) F) :
    RvS w n5 n9 n10 y0 y1 y2 y3 F kv ks mv c D acc rA n rc ((((W.setCell ⟨n5, 0, none⟩ y0).setCell ⟨n5, 1, none⟩ y1).setCell ⟨n5, 2, none⟩ y2).setCell ⟨n5, 3, none⟩ y3) := by
  have hk : Off n5 W ((((W.setCell ⟨n5, 0, none⟩ y0).setCell ⟨n5, 1, none⟩ y1).setCell ⟨n5, 2, none⟩ y2).setCell ⟨n5, 3, none⟩ y3) := ((((Off.refl _ _).setCell 0 y0).setCell 1 y1).setCell 2 y2).setCell 3 y3
  have hm : n5 ∈ [n10, n9, n5] := by simp
  have h9 := h.ne9
  have h10 := h.ne10
  refine ⟨h.sv.store hd, ?_, ?_, h.log.keep fun p hp _ => hk p (fun e => hp (e ▸ hm)), h.ne9, h.ne10, h.ne⟩
  · rw [heap_set_if, if_neg h9, heap_set_if, if_neg h9, heap_set_if, if_neg h9, heap_set_if, if_neg h9]; exact h.b9
  · rw [heap_set_if, if_neg h10, heap_set_if, if_neg h10, heap_set_if, if_neg h10, heap_set_if, if_neg h10]; exact h.b10
end
theorem setLeft_self {D : DiskD} {n g : Nat} (h : Wk D n g) : setLeft D (-1) = D := by
  have := h.left
  obtain ⟨a, b, c, d⟩ := D
  cases this
  rfl
theorem wk_stop {D : DiskD} {n g : Nat} (h : Wk D n g) {x : Int} (h1 : 0 ≤ x) (h2 : x ≤ 65536) : stopD D x = (setLeft D x, 0) := by
  unfold stopD
  rw [if_pos h.runs, if_pos ⟨h1, h2⟩]
  rfl
theorem IsLog.matR {w : World} {M : Nat → Prop} {a s r : Value} {l : LogD} (h : IsLog w M (.agg #[a, r, s]) l) : IsMat w M r l.recs := by
  obtain ⟨rv, e, h3⟩ := h
  simp only [Value.agg.injEq, Array.mk.injEq, List.cons.injEq, and_true] at e
  rw [e.2.1]; exact h3
/-- a round's end -/
theorem RvS.fin {w W : World} {n5 n9 n10 : Nat} {x0 x1 x2 x3 : Value} {E : DiskD} {kv kv' : Value} {ks ks' : List (List UInt8)} {mv : Value} {c : CrD} {D : DiskD} {acc : List (List UInt8)} {rA : Option Addr} {n rc : Nat} (h : RvS w n5 n9 n10 x0 x1 x2 x3 E kv ks mv c D acc rA n rc W) (hk : IsMat W (NB [n10, n9, n5]) kv' ks') : SvS w n5 [n5] x0 x1 x2 x3 E kv' ks' W :=
  (h.sv.keeps hk).less (by simp) (by simp)
theorem frz {w : World} {g j : Nat} {cs : Array Value} {t : TypeId} (h : w.heap[g]? = some (.cells cs t (0, 0))) : w.frozen? ⟨g, j, none⟩ = false := by simp [World.frozen?, h]
end Go.Proofs.Ytocjhepiooljpaa
/- What WalDamage keeps in memory while it appends. -/
namespace Go.Proofs.Ytocjhepiooljpaa
open Go.RowKit Go.Deep Go.Shelf

theorem Try.info_int : (Try.prog.info? 3).map (fun i => (i.zero, i.size, i.bytes)) = some (some (.int .i64 0), 1, 8) := by kernel_rfl
theorem Try.info_u8 : (Try.prog.info? 5).map (fun i => (i.zero, i.size, i.bytes)) = some (some (.int .u8 0), 1, 1) := by kernel_rfl
theorem own_sl {w : World} {base e sz n : Nat} {v : Value} {xs : List Value} (h : w.ownsRow base e sz v n xs) : ∃ A c, v = .slice A n c := by
  rcases h.2 with ⟨rfl, h0⟩ | ⟨b, cap, cur, rfl, _⟩
  · exact ⟨none, 0, by rw [h0]⟩
  · exact ⟨_, _, rfl⟩
theorem own_pos {w : World} {base e n : Nat} {v : Value} {xs : List Value} (h : w.ownsRow base e 1 v n xs) (h0 : 0 < n) : ∃ g cap, v = .slice (some ⟨g, 0, none⟩) n cap ∧ base ≤ g ∧ n ≤ cap ∧ cap ≤ 9223372036854775807 ∧ g < w.heap.size := by
  rcases h.2 with ⟨rfl, hx⟩ | ⟨g, cap, cur, rfl, hb, hg, h1, h2, -⟩
  · have := h.1
    omega
  · exact ⟨g, cap, rfl, hb, h1, by simpa [maxLen] using h2, lt_heap hg⟩
/-- where the records end -/
def endsL (rs : List (List UInt8)) (j : Nat) : List Int := (List.range j).map fun i => ((used (rs.take (i + 1)) : Nat) : Int)
theorem endsL_length (rs : List (List UInt8)) (j : Nat) : (endsL rs j).length = j := by simp [endsL]
theorem endsL_snoc (rs : List (List UInt8)) (j : Nat) : endsL rs (j + 1) = endsL rs j ++ [((used (rs.take (j + 1)) : Nat) : Int)] := by simp [endsL, List.range_succ]
theorem endsL_get {rs : List (List UInt8)} {j i : Nat} (h : i < j) : nthI (endsL rs j) i = ((used (rs.take (i + 1)) : Nat) : Int) := by
  unfold nthI endsL
  simp [List.getD_eq_getElem?_getD, h]
/-- outside of two boxes and of a row of its own -/
def Mx (a b : Nat) (ev : Value) (k : Nat) : Prop := k ≠ a ∧ k ≠ b ∧ ev.ownBlock ≠ some k
structure DmS (w3 : World) (n11 : Nat) (x0 x1 x2 x3 : Value) (D : DiskD) (acc : List (List UInt8)) (rA : Option Addr) (n rc : Nat) (ev : Value) (es : List Int) (W : World) : Prop where
  b9 : W.heap[w3.heap.size]? = some (.cells #[x0, x1, x2, x3] 25 (0, 0))
  b11 : W.heap[n11]? = some (.cells #[.int .i64 (D.sectors.length : Int), .slice rA n rc, .int .i64 ((recs D.sectors).length : Int)] 29 (0, 0))
  below : Below w3.heap.size w3 W
  log : IsLog W (Mx w3.heap.size n11 ev) (.agg #[.int .i64 (D.sectors.length : Int), .slice rA n rc, .int .i64 ((recs D.sectors).length : Int)]) (logOf D acc)
  own : W.ownsRow (n11 + 1) 3 1 ev es.length (es.map i64v)
  lt : w3.heap.size < n11
section
variable {w3 W W' : World} {n11 : Nat} {x0 x1 x2 x3 : Value} {D : DiskD} {acc : List (List UInt8)} {rA : Option Addr} {n rc : Nat} {ev : Value} {es : List Int}
theorem DmS.ne9 (h : DmS w3 n11 x0 x1 x2 x3 D acc rA n rc ev es W) : ev.ownBlock ≠ some w3.heap.size ∧ ev.ownBlock ≠ some n11 := by
  have hlt := h.lt
  exact ⟨fun e => by have := own_base h.own _ e; omega, fun e => by have := own_base h.own _ e; omega⟩
theorem DmS.next (h : DmS w3 n11 x0 x1 x2 x3 D acc rA n rc ev es W) (hb : Below W.heap.size W W') : DmS w3 n11 x0 x1 x2 x3 D acc rA n rc ev es W' :=
  ⟨(hb.block _ (lt_heap h.b9)).trans h.b9, (hb.block _ (lt_heap h.b11)).trans h.b11, h.below.trans (hb.mono h.below.size), h.log.below hb, own_below h.own hb (Nat.le_refl _), h.lt⟩
theorem Mx.new (h : DmS w3 n11 x0 x1 x2 x3 D acc rA n rc ev es W) {k : Nat} (hk : New (Mx w3.heap.size n11 ev) W k) : Mx w3.heap.size n11 ev k := by
  rcases hk with hk | hk
  · exact hk
  · have h9 := lt_heap h.b9
    have h11 := lt_heap h.b11
    refine ⟨by omega, by omega, fun e => ?_⟩
    rcases h.own.2 with ⟨rfl, -⟩ | ⟨g, cap, cur, rfl, -, hg, -⟩
    · simp [Value.ownBlock] at e
    · simp [Value.ownBlock] at e
      have := lt_heap hg
      omega
/-- a log is stored -/
theorem DmS.append (h : DmS w3 n11 x0 x1 x2 x3 D acc rA n rc ev es W) {rA' : Option Addr} {n' rc' : Nat} {acc' : List (List UInt8)}
    (hl : IsLog W (Mx w3.heap.size n11 ev) (.agg #[.int .i64 (D.sectors.length : Int), .slice rA' n' rc', .int .i64 ((recs D.sectors).length : Int)]) (logOf D acc')) :
    DmS w3 n11 x0 x1 x2 x3 D acc' rA' n' rc' ev es (((W.setCell ⟨n11, 0, none⟩ (.int .i64 (D.sectors.length : Int))).setCell ⟨n11, 1, none⟩ (.slice rA' n' rc')).setCell ⟨n11, 2, none⟩ (.int .i64 ((recs D.sectors).length : Int))) := by
  have hk : Off n11 W (((W.setCell ⟨n11, 0, none⟩ (.int .i64 (D.sectors.length : Int))).setCell ⟨n11, 1, none⟩ (.slice rA' n' rc')).setCell ⟨n11, 2, none⟩ (.int .i64 ((recs D.sectors).length : Int))) := (((Off.refl _ _).setCell 0 _).setCell 1 _).setCell 2 _
  have hb := Blk_set (Blk_set (Blk_set h.b11 (j := 0) (.int .i64 (D.sectors.length : Int))) (j := 1) (.slice rA' n' rc')) (j := 2) (.int .i64 ((recs D.sectors).length : Int))
  have hlt := h.lt
  have hle : w3.heap.size ≤ n11 := by omega
  have h11 := h.ne9.2
  refine ⟨?_, by rw [hb]; rfl, ((h.below.setCell hle _).setCell hle _).setCell hle _, hl.keep fun p hp _ => hk p hp.2.1, ownsRow_setCell_other (ownsRow_setCell_other (ownsRow_setCell_other h.own h11 _) h11 _) h11 _, h.lt⟩
  rw [heap_set_if, if_neg (by omega), heap_set_if, if_neg (by omega), heap_set_if, if_neg (by omega)]
  exact h.b9
/-- a number is appended to the row -/
theorem DmS.push (h : DmS w3 n11 x0 x1 x2 x3 D acc rA n rc ev es W) {ev' : Value} {e : Int} (hO : W'.ownsRow (n11 + 1) 3 1 ev' (es.length + 1) (es.map i64v ++ [i64v e])) (hG : W.grownBy W' ev.ownBlock) (hv : ev'.ownBlock = ev.ownBlock ∨ ev'.ownBlock = some W.heap.size) :
    DmS w3 n11 x0 x1 x2 x3 D acc rA n rc ev' (es ++ [e]) W' := by
  have hlt := h.lt
  have h9 := lt_heap h.b9
  have h11 := lt_heap h.b11
  obtain ⟨n9, n11'⟩ := h.ne9
  refine ⟨(hG.block _ h9 n9.symm).trans h.b9, (hG.block _ h11 n11'.symm).trans h.b11, h.below.grown hG h.below.size (fun k e => by have := own_base h.own k e; omega), ?_, by rw [List.length_append, List.map_append]; exact hO, h.lt⟩
  refine (h.log.mono (M' := fun b => b < W.heap.size ∧ Mx w3.heap.size n11 ev b) fun b hb hM => ⟨hb, hM⟩).keep (fun p hp hlt => ?_) |>.mono fun b _ hM => ⟨hM.2.1, hM.2.2.1, fun e => ?_⟩
  · unfold World.cell?
    rw [hG.block _ hlt hp.2.2.2.symm]
  · rcases hv with hv | hv
    · exact hM.2.2.2 (by rw [← hv]; exact e)
    · rw [hv] at e
      have := Option.some.inj e
      omega
end
end Go.Proofs.Ytocjhepiooljpaa
