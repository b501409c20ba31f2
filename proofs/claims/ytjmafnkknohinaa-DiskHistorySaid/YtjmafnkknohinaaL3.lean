import Derived.Test.YtjmafnkknohinaaK9
namespace Go.Proofs.Ytjmafnkknohinaa

/- the history of a disk of four sectors: no program here -/
/-- a write in its sector's place -/
def upd (f : Nat → UInt8) (a : ActD) : Nat → UInt8 := fun i => if i = a.pos.toNat % 4 then a.byte else f i
def keptF (f : Nat → UInt8) (ws : List ActD) : Nat → UInt8 := ws.foldl upd f
def wrA (a : ActD) : Wr := ⟨((a.pos.toNat % 4 : Nat) : Int), pad [a.byte]⟩
structure Sec (ss : List (List UInt8)) (f : Nat → UInt8) : Prop where
  len : ss.length = 4
  each : ∀ i, i < 4 → (ss.getD i []).length = 128 ∧ (ss.getD i []).getD 0 0 = f i ∧ (ss.getD i []).getD 127 0 = 0
theorem pad1 (b : UInt8) : (pad [b]).length = 128 ∧ (pad [b]).getD 0 0 = b ∧ (pad [b]).getD 127 0 = 0 := by
  refine ⟨pad_length (by simp), rfl, rfl⟩
theorem Sec.step {ss : List (List UInt8)} {f : Nat → UInt8} (h : Sec ss f) (a : ActD) : Sec (ss.set (wrA a).pos.toNat (wrA a).data) (upd f a) := by
  have hp : (wrA a).pos.toNat = a.pos.toNat % 4 := rfl
  refine ⟨by simpa using h.len, fun i hi => ?_⟩
  rw [hp, List.getD_eq_getElem?_getD, List.getElem?_set]
  unfold upd
  by_cases e : a.pos.toNat % 4 = i
  · rw [if_pos e, if_pos (by rw [h.len]; omega), Option.getD_some, if_pos e.symm]
    exact pad1 a.byte
  · rw [if_neg e, ← List.getD_eq_getElem?_getD, if_neg (fun h => e h.symm)]
    exact h.each i hi
theorem Sec.perform {ss : List (List UInt8)} {f : Nat → UInt8} (h : Sec ss f) (ws : List ActD) : Sec (performD ss (ws.map wrA)) (keptF f ws) := by
  induction ws generalizing ss f with
  | nil => exact h
  | cons a r ih => exact ih (h.step a)
theorem keptF_snoc (f : Nat → UInt8) (ws : List ActD) (a : ActD) : keptF f (ws ++ [a]) = upd (keptF f ws) a := by
  unfold keptF; rw [List.foldl_append]; rfl
theorem Sec.all128 {ss : List (List UInt8)} {f : Nat → UInt8} (h : Sec ss f) : ∀ s ∈ ss, s.length = 128 := fun s hs => by
  obtain ⟨i, hi, rfl⟩ := List.getElem_of_mem hs
  have := (h.each i (by have := h.len; omega)).1
  rwa [List.getD_eq_getElem?_getD, List.getElem?_eq_getElem hi, Option.getD_some] at this
/-- a disk that has not stopped, with the writes ws waiting -/
structure Inv (D : DiskD) (last kept : Nat → UInt8) (ws : List ActD) (room : Nat) : Prop where
  stop : D.stopped = false
  pend : D.pending = ws.map wrA
  left : D.left = room
  sec : Sec D.sectors kept
  last : last = keptF kept ws
  room : room ≤ 255
  few : ws.length ≤ 40
section
variable {D : DiskD} {last kept : Nat → UInt8} {ws : List ActD} {room : Nat}
theorem wrA_mem {y : Wr} (h : y ∈ ws.map wrA) : 0 ≤ y.pos ∧ y.pos < 4 ∧ y.data.length = 128 := by
  obtain ⟨a, -, rfl⟩ := List.mem_map.1 h
  exact ⟨by simp only [wrA]; omega, by simp only [wrA]; omega, (pad1 a.byte).1⟩
theorem Inv.runs (h : Inv D last kept ws room) : runsB D = true := by
  have hl := h.sec.len
  have h1 := h.room
  have h2 := h.few
  have h3 := h.left
  refine runsB_iff.2 ⟨okB_iff.2 ⟨⟨by omega, by omega, by rw [h.pend]; simp; omega, by omega, by omega⟩, h.sec.all128, fun y hy => ?_⟩, h.stop⟩
  rw [h.pend] at hy
  obtain ⟨h4, h5, h6⟩ := wrA_mem hy
  exact ⟨h4, by omega, h6⟩
theorem has4 (h : Sec D.sectors kept) {i : Nat} (hi : i < 4) : hasB D (i : Int) = true := hasB_iff.2 ⟨by omega, by have := h.len; omega⟩
theorem Inv.holds (h : Inv D last kept ws room) : Holds D last := fun i hi => by
  have hp := h.sec.perform ws
  rw [← h.pend, ← h.last] at hp
  have hg : (performD D.sectors D.pending).getD i [] = lastD D.pending (i : Int) (D.sectors.getD i []) := performD_get (by have := h.sec.len; omega) fun y hy => by
    rw [h.pend] at hy
    have hl := h.sec.len
    obtain ⟨h4, h5, -⟩ := wrA_mem hy
    exact ⟨h4, by omega⟩
  obtain ⟨e1, e2, e3⟩ := hp.each i hi
  rw [hg] at e1 e2 e3
  exact ⟨_, by rw [readD_yes h.runs (has4 h.sec hi), Int.toNat_natCast], e1, e2, e3⟩
theorem holds_restart {E : DiskD} {f : Nat → UInt8} (h : Sec E.sectors f) : Holds (restartD E) f := fun i hi => by
  have hl := h.len
  have hr : runsB (restartD E) = true := runsB_iff.2 ⟨okB_iff.2 ⟨⟨by simp [restartD]; omega, by simp [restartD]; omega, by simp [restartD], by simp [restartD], by simp [restartD]⟩, h.all128, fun y hy => absurd hy (by simp [restartD])⟩, rfl⟩
  obtain ⟨e1, e2, e3⟩ := h.each i hi
  exact ⟨_, by rw [readD_yes hr (has4 (D := restartD E) h hi), Int.toNat_natCast]; rfl, e1, e2, e3⟩
theorem Inv.write (h : Inv D last kept ws room) (a : ActD) (hw : ws.length < 40) :
    writeD D ((a.pos.toNat % 4 : Nat) : Int) [a.byte] = (wrote D ((a.pos.toNat % 4 : Nat) : Int) [a.byte], 0) ∧ Inv (wrote D ((a.pos.toNat % 4 : Nat) : Int) [a.byte]) (upd last a) kept (ws ++ [a]) room := by
  have hh := has4 (i := a.pos.toNat % 4) h.sec (by omega)
  refine ⟨writeD_yes h.runs hh (by simp) (by rw [h.pend]; simp; omega), ⟨h.stop, ?_, h.left, h.sec, ?_, h.room, by simp; omega⟩⟩
  · simp only [wrote, h.pend, List.map_append]; rfl
  · rw [keptF_snoc, ← h.last]
theorem Inv.sync (h : Inv D last kept ws room) (hw : ws.length ≤ room) : syncD D = (synced D, 0) ∧ keptF kept ws = last ∧ Inv (synced D) last last [] (room - ws.length) := by
  have hl := h.left
  have hp : D.pending.length = ws.length := by rw [h.pend]; simp
  have hc : ¬ (0 ≤ D.left ∧ D.left < D.pending.length) := by omega
  have hr := h.room
  refine ⟨syncD_go h.runs hc, h.last.symm, ⟨rfl, rfl, ?_, ?_, rfl, by omega, by simp⟩⟩
  · simp only [synced]; rw [if_pos (by omega)]; omega
  · have := h.sec.perform ws
    rw [← h.pend, ← h.last] at this
    exact this
theorem Inv.halt (h : Inv D last kept ws room) (hw : room < ws.length) : syncD D = (halted D, 340) ∧ (halted D).stopped = true ∧ Holds (restartD (halted D)) (keptF kept (ws.take room)) := by
  have hl := h.left
  have hp : D.pending.length = ws.length := by rw [h.pend]; simp
  refine ⟨syncD_stop h.runs (by omega), rfl, holds_restart ?_⟩
  have := h.sec.perform (ws.take room)
  have e : D.pending.take D.left.toNat = (ws.take room).map wrA := by rw [h.pend, List.map_take, show D.left.toNat = room by omega]
  simp only [halted, e]
  exact this
theorem inv_start (r : Nat) (hr : r ≤ 255) : Inv ⟨List.replicate 4 zs128, [], (r : Int), false⟩ (fun _ => 0) (fun _ => 0) [] r := by
  refine ⟨rfl, rfl, rfl, ⟨by simp, fun i hi => ?_⟩, rfl, hr, by simp⟩
  have : i = 0 ∨ i = 1 ∨ i = 2 ∨ i = 3 := by omega
  rcases this with rfl | rfl | rfl | rfl <;> exact ⟨rfl, rfl, rfl⟩
end
end Go.Proofs.Ytjmafnkknohinaa
