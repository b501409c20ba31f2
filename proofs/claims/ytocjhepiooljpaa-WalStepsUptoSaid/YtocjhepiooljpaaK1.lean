import Derived.Test.YtocjhepiooljpaaT18
import Derived.Test.YtocjhepiooljpaaT9
namespace Go.Proofs.Ytocjhepiooljpaa
open Go.RowKit Go.Shelf Go.Deep

section
variable {l l' : List Nat} {w w' w'' : World}
theorem IsDisk.kp {v : Value} {d : DiskD} (h : IsDisk w (NB l) v d) (k : Kp l w w') : IsDisk w' (NB l) v d := h.keep fun _ hp hl => k.cell hp hl
theorem IsBytes.kp {v : Value} {d : List UInt8} (h : IsBytes w (NB l) v d) (k : Kp l w w') : IsBytes w' (NB l) v d := h.keep fun _ hp hl => k.cell hp hl
theorem BytesC.kp {A : Option Addr} {d : List UInt8} (h : BytesC w (NB l) A d) (k : Kp l w w') : BytesC w' (NB l) A d := h.keep fun _ hp hl => k.cell hp hl
theorem IsDisk.box {v : Value} {d : DiskD} {n : Nat} (h : IsDisk w (NB l) v d) (hn : w.heap.size ≤ n) : IsDisk w (NB (n :: l)) v d := h.mono fun b hb hM => NB.cons (by omega) hM
theorem IsBytes.box {v : Value} {d : List UInt8} {n : Nat} (h : IsBytes w (NB l) v d) (hn : w.heap.size ≤ n) : IsBytes w (NB (n :: l)) v d := h.mono fun b hb hM => NB.cons (by omega) hM
theorem BytesC.box {A : Option Addr} {d : List UInt8} {n : Nat} (h : BytesC w (NB l) A d) (hn : w.heap.size ≤ n) : BytesC w (NB (n :: l)) A d := h.mono fun b hb hM => NB.cons (by omega) hM
theorem IsDisk.ofNew {v : Value} {d : DiskD} (h : IsDisk w' (New (NB l) w) v d) (hi : InW l w) : IsDisk w' (NB l) v d := h.mono fun _ _ hM => NB.new hi hM
theorem IsDisk.ofGe {v : Value} {d : DiskD} (h : IsDisk w' (fun b => w.heap.size ≤ b) v d) (hi : InW l w) : IsDisk w' (NB l) v d := h.mono fun _ _ hM => NB.ge hi hM
end
theorem new_any (w : World) (x : Int) : Calls Try.prog 25 #[.int .i64 x] w (RetDiskE w (fun b => w.heap.size ≤ b) (newD x)) := by
  by_cases h : 1 ≤ x ∧ x ≤ 4096
  · obtain ⟨n, rfl⟩ : ∃ n : Nat, x = n := ⟨x.toNat, by omega⟩
    exact new_yes w n (by omega) (by omega)
  · exact new_no w x h
/- the contracts once more, for a caller whose boxes are l: what comes back lies outside of l -/
def DiskE (l : List Nat) (w : World) (r : DiskD × Int) (e : Ending) (w' : World) : Prop := ∃ v, e = .returned (.tuple #[v, .int .i64 r.2]) ∧ IsDisk w' (NB l) v r.1 ∧ Below w.heap.size w w'
def Disk1 (l : List Nat) (w : World) (d : DiskD) (e : Ending) (w' : World) : Prop := ∃ v, e = .returned v ∧ IsDisk w' (NB l) v d ∧ Below w.heap.size w w'
def BytesE (l : List Nat) (w : World) (r : List UInt8 × Int) (e : Ending) (w' : World) : Prop := ∃ v, e = .returned (.tuple #[v, .int .i64 r.2]) ∧ IsBytes w' (NB l) v r.1 ∧ Below w.heap.size w w'
section
variable (l : List Nat) (w : World) (hl : InW l w)
include hl
theorem new_l (x : Int) : Calls Try.prog 25 #[.int .i64 x] w (DiskE l w (newD x)) := (new_any w x).mono fun _ _ ⟨v, he, hd, hb⟩ => ⟨v, he, hd.ofGe hl, hb⟩
theorem write_l (d : DiskD) (v : Value) (h : IsDisk w (NB l) v d) (x : Int) (b : List UInt8) (u : Value) (hb : IsBytes w (NB l) u b) : Calls Try.prog 26 #[v, .int .i64 x, u] w (DiskE l w (writeD d x b)) := by
  obtain ⟨A, c, rfl, h1, h2, h3⟩ := hb
  exact (write_any w _ d v h x b A c h3 (by omega)).mono fun _ _ ⟨v, he, hd, hb⟩ => ⟨v, he, hd.ofNew hl, hb⟩
theorem refWrite_l (d : DiskD) (v : Value) (h : IsDisk w (NB l) v d) (x : Int) (b : List UInt8) (u : Value) (hb : IsBytes w (NB l) u b) : Calls Try.prog 46 #[v, .int .i64 x, u] w (DiskE l w (writeD d x b)) := by
  obtain ⟨A, c, rfl, h1, h2, h3⟩ := hb
  exact (refWrite_any w _ d v h x b A c h3 (by omega)).mono fun _ _ ⟨v, he, hd, hb⟩ => ⟨v, he, hd.ofNew hl, hb⟩
theorem sync_l (d : DiskD) (v : Value) (h : IsDisk w (NB l) v d) : Calls Try.prog 27 #[v] w (DiskE l w (syncD d)) := (sync_any w _ d v h).mono fun _ _ ⟨v, he, hd, hb⟩ => ⟨v, he, hd.ofNew hl, hb⟩
theorem refSync_l (d : DiskD) (v : Value) (h : IsDisk w (NB l) v d) : Calls Try.prog 48 #[v] w (DiskE l w (syncD d)) := (refSync_any w _ d v h).mono fun _ _ ⟨v, he, hd, hb⟩ => ⟨v, he, hd.ofNew hl, hb⟩
omit hl in
theorem stop_l (d : DiskD) (v : Value) (h : IsDisk w (NB l) v d) (x : Int) : Calls Try.prog 29 #[v, .int .i64 x] w (DiskE l w (stopD d x)) := stop_any w _ d v h x
omit hl in
theorem restart_l (d : DiskD) (v : Value) (h : IsDisk w (NB l) v d) : Calls Try.prog 30 #[v] w (Disk1 l w (restartD d)) := restart_any w _ d v h
omit hl in
end
end Go.Proofs.Ytocjhepiooljpaa
