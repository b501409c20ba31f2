import Derived.Test.YtjmafnkknohinaaT22
import Derived.Test.YtjmafnkknohinaaT18
import Derived.Test.YtjmafnkknohinaaT9
import Derived.Test.YtjmafnkknohinaaT8
namespace Go.Proofs.Ytjmafnkknohinaa
open Go.RowKit Go.Shelf Go.Deep

/-- every block that was there, but those of l, is as it was -/
structure Kp (l : List Nat) (w w' : World) : Prop where
  size : w.heap.size ≤ w'.heap.size
  block : ∀ k, k < w.heap.size → k ∉ l → w'.heap[k]? = w.heap[k]?
def NB (l : List Nat) (b : Nat) : Prop := b ∉ l
section
variable {l l' : List Nat} {w w' w'' : World}
theorem Kp.refl (l : List Nat) (w : World) : Kp l w w := ⟨Nat.le_refl _, fun _ _ _ => rfl⟩
theorem Kp.trans (h : Kp l w w') (k : Kp l w' w'') : Kp l w w'' := ⟨Nat.le_trans h.size k.size, fun i hi hl => (k.block i (by have := h.size; omega) hl).trans (h.block i hi hl)⟩
theorem Kp.below (h : Kp l w w') (k : Below w'.heap.size w' w'') : Kp l w w'' := h.trans ⟨k.size, fun i hi _ => k.block i hi⟩
theorem Kp.alloc (h : Kp l w w') (o : Obj) : Kp l w (w'.alloc o) := h.trans ⟨by simp, fun i hi _ => Below.heap_alloc _ _ _ hi⟩
theorem Kp.drew (h : Kp l w w') : Kp l w w'.drew := ⟨h.size, h.block⟩
theorem Kp.drewN (h : Kp l w w') (n : Nat) : Kp l w (w'.drewN n) := ⟨h.size, h.block⟩
theorem Kp.setCell (h : Kp l w w') {b : Nat} (hb : b ∈ l) (j : Nat) (u : Value) : Kp l w (w'.setCell ⟨b, j, none⟩ u) :=
  h.trans ⟨by simp [World.setCell], fun i _ hl => Below.heap_setCell _ _ _ _ (fun e => hl (by rw [e]; exact hb))⟩
theorem Kp.mono (h : Kp l w w') (hl : ∀ b ∈ l, b ∈ l') : Kp l' w w' := ⟨h.size, fun i hi hn => h.block i hi fun e => hn (hl i e)⟩
theorem Kp.cell (h : Kp l w w') {p : Addr} (hp : NB l p.block) (hl : p.block < w.heap.size) : w'.cell? p = w.cell? p := World.cell?_of_block (w := w) (h.block p.block hl hp)
theorem IsDisk.kp {v : Value} {d : DiskD} (h : IsDisk w (NB l) v d) (k : Kp l w w') : IsDisk w' (NB l) v d := h.keep fun _ hp hl => k.cell hp hl
theorem IsBytes.kp {v : Value} {d : List UInt8} (h : IsBytes w (NB l) v d) (k : Kp l w w') : IsBytes w' (NB l) v d := h.keep fun _ hp hl => k.cell hp hl
theorem BytesC.kp {A : Option Addr} {d : List UInt8} (h : BytesC w (NB l) A d) (k : Kp l w w') : BytesC w' (NB l) A d := h.keep fun _ hp hl => k.cell hp hl
/-- all of l lie in w -/
def InW (l : List Nat) (w : World) : Prop := ∀ b ∈ l, b < w.heap.size
theorem InW.nil (w : World) : InW [] w := fun b hb => absurd hb (by simp)
theorem InW.mono (h : InW l w) (hs : w.heap.size ≤ w'.heap.size) : InW l w' := fun b hb => Nat.lt_of_lt_of_le (h b hb) hs
theorem InW.cons {b : Nat} (h : InW l w) (hb : b < w.heap.size) : InW (b :: l) w := fun c hc => by
  rcases List.mem_cons.1 hc with e | e
  · exact e ▸ hb
  · exact h c e
theorem NB.new (h : InW l w) {b : Nat} (hb : New (NB l) w b) : NB l b := by
  rcases hb with hb | hb
  · exact hb
  · exact fun e => absurd (h b e) (by omega)
theorem NB.ge (h : InW l w) {b : Nat} (hb : w.heap.size ≤ b) : NB l b := fun e => absurd (h b e) (by omega)
theorem NB.cons {n b : Nat} (hb : b < n) (h : NB l b) : NB (n :: l) b := fun e => by
  rcases List.mem_cons.1 e with e | e
  · omega
  · exact h e
theorem IsDisk.box {v : Value} {d : DiskD} {n : Nat} (h : IsDisk w (NB l) v d) (hn : w.heap.size ≤ n) : IsDisk w (NB (n :: l)) v d := h.mono fun b hb hM => NB.cons (by omega) hM
theorem IsBytes.box {v : Value} {d : List UInt8} {n : Nat} (h : IsBytes w (NB l) v d) (hn : w.heap.size ≤ n) : IsBytes w (NB (n :: l)) v d := h.mono fun b hb hM => NB.cons (by omega) hM
theorem BytesC.box {A : Option Addr} {d : List UInt8} {n : Nat} (h : BytesC w (NB l) A d) (hn : w.heap.size ≤ n) : BytesC w (NB (n :: l)) A d := h.mono fun b hb hM => NB.cons (by omega) hM
theorem IsDisk.ofNew {v : Value} {d : DiskD} (h : IsDisk w' (New (NB l) w) v d) (hi : InW l w) : IsDisk w' (NB l) v d := h.mono fun _ _ hM => NB.new hi hM
theorem IsDisk.ofGe {v : Value} {d : DiskD} (h : IsDisk w' (fun b => w.heap.size ≤ b) v d) (hi : InW l w) : IsDisk w' (NB l) v d := h.mono fun _ _ hM => NB.ge hi hM
end
theorem new_any (w : World) (x : Int) : Calls Try.prog 12 #[.int .i64 x] w (RetDiskE w (fun b => w.heap.size ≤ b) (newD x)) := by
  by_cases h : 1 ≤ x ∧ x ≤ 4096
  · obtain ⟨n, rfl⟩ : ∃ n : Nat, x = n := ⟨x.toNat, by omega⟩
    exact new_yes w n (by omega) (by omega)
  · exact new_no w x h
theorem refNew_any (w : World) (x : Int) : Calls Try.prog 13 #[.int .i64 x] w (RetDiskE w (fun b => w.heap.size ≤ b) (newD x)) := by
  by_cases h : 1 ≤ x ∧ x ≤ 4096
  · obtain ⟨n, rfl⟩ : ∃ n : Nat, x = n := ⟨x.toNat, by omega⟩
    exact refNew_yes w n (by omega) (by omega)
  · exact refNew_no w x h

/- the contracts once more, for a caller whose boxes are l: what comes back lies outside of l -/
def DiskE (l : List Nat) (w : World) (r : DiskD × Int) (e : Ending) (w' : World) : Prop := ∃ v, e = .returned (.tuple #[v, .int .i64 r.2]) ∧ IsDisk w' (NB l) v r.1 ∧ Below w.heap.size w w'
def Disk1 (l : List Nat) (w : World) (d : DiskD) (e : Ending) (w' : World) : Prop := ∃ v, e = .returned v ∧ IsDisk w' (NB l) v d ∧ Below w.heap.size w w'
def BytesE (l : List Nat) (w : World) (r : List UInt8 × Int) (e : Ending) (w' : World) : Prop := ∃ v, e = .returned (.tuple #[v, .int .i64 r.2]) ∧ IsBytes w' (NB l) v r.1 ∧ Below w.heap.size w w'
section
variable (l : List Nat) (w : World) (hl : InW l w)
include hl
theorem new_l (x : Int) : Calls Try.prog 12 #[.int .i64 x] w (DiskE l w (newD x)) := (new_any w x).mono fun _ _ ⟨v, he, hd, hb⟩ => ⟨v, he, hd.ofGe hl, hb⟩
theorem refNew_l (x : Int) : Calls Try.prog 13 #[.int .i64 x] w (DiskE l w (newD x)) := (refNew_any w x).mono fun _ _ ⟨v, he, hd, hb⟩ => ⟨v, he, hd.ofGe hl, hb⟩
theorem write_l (d : DiskD) (v : Value) (h : IsDisk w (NB l) v d) (x : Int) (b : List UInt8) (u : Value) (hb : IsBytes w (NB l) u b) : Calls Try.prog 19 #[v, .int .i64 x, u] w (DiskE l w (writeD d x b)) := by
  obtain ⟨A, c, rfl, h1, h2, h3⟩ := hb
  exact (write_any w _ d v h x b A c h3 (by omega)).mono fun _ _ ⟨v, he, hd, hb⟩ => ⟨v, he, hd.ofNew hl, hb⟩
theorem refWrite_l (d : DiskD) (v : Value) (h : IsDisk w (NB l) v d) (x : Int) (b : List UInt8) (u : Value) (hb : IsBytes w (NB l) u b) : Calls Try.prog 20 #[v, .int .i64 x, u] w (DiskE l w (writeD d x b)) := by
  obtain ⟨A, c, rfl, h1, h2, h3⟩ := hb
  exact (refWrite_any w _ d v h x b A c h3 (by omega)).mono fun _ _ ⟨v, he, hd, hb⟩ => ⟨v, he, hd.ofNew hl, hb⟩
theorem sync_l (d : DiskD) (v : Value) (h : IsDisk w (NB l) v d) : Calls Try.prog 23 #[v] w (DiskE l w (syncD d)) := (sync_any w _ d v h).mono fun _ _ ⟨v, he, hd, hb⟩ => ⟨v, he, hd.ofNew hl, hb⟩
theorem refSync_l (d : DiskD) (v : Value) (h : IsDisk w (NB l) v d) : Calls Try.prog 24 #[v] w (DiskE l w (syncD d)) := (refSync_any w _ d v h).mono fun _ _ ⟨v, he, hd, hb⟩ => ⟨v, he, hd.ofNew hl, hb⟩
omit hl in
theorem stop_l (d : DiskD) (v : Value) (h : IsDisk w (NB l) v d) (x : Int) : Calls Try.prog 25 #[v, .int .i64 x] w (DiskE l w (stopD d x)) := stop_any w _ d v h x
omit hl in
theorem refStop_l (d : DiskD) (v : Value) (h : IsDisk w (NB l) v d) (x : Int) : Calls Try.prog 26 #[v, .int .i64 x] w (DiskE l w (stopD d x)) := refStop_any w _ d v h x
omit hl in
theorem restart_l (d : DiskD) (v : Value) (h : IsDisk w (NB l) v d) : Calls Try.prog 17 #[v] w (Disk1 l w (restartD d)) := restart_any w _ d v h
omit hl in
theorem refRestart_l (d : DiskD) (v : Value) (h : IsDisk w (NB l) v d) : Calls Try.prog 18 #[v] w (Disk1 l w (restartD d)) := refRestart_any w _ d v h
omit hl in
theorem read_l (d : DiskD) (v : Value) (h : IsDisk w (NB l) v d) (x : Int) : Calls Try.prog 21 #[v, .int .i64 x] w (BytesE l w (readD d x)) := read_any w _ d v h x
omit hl in
theorem refRead_l (d : DiskD) (v : Value) (h : IsDisk w (NB l) v d) (x : Int) : Calls Try.prog 22 #[v, .int .i64 x] w (BytesE l w (readD d x)) := refRead_any w _ d v h x
end
end Go.Proofs.Ytjmafnkknohinaa
