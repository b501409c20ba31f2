import Derived.Test.YtocjhepiooljpaaK1
namespace Go.Proofs.Ytocjhepiooljpaa
def lastD (ps : List Wr) (x : Int) (b0 : List UInt8) : List UInt8 := ps.foldl (fun b y => if y.pos = x then y.data else b) b0
def readD (d : DiskD) (x : Int) : List UInt8 × Int := if runsB d && hasB d x then (lastD d.pending x (d.sectors.getD x.toNat []), 0) else ([], 340)
theorem lastD_none {ps : List Wr} {x : Int} {b0 : List UInt8} (h : ∀ y ∈ ps, ¬ y.pos = x) : lastD ps x b0 = b0 := by
  induction ps generalizing b0 with
  | nil => rfl
  | cons y r ih =>
    unfold lastD
    rw [List.foldl_cons, if_neg (h y (by simp))]
    exact ih fun z hz => h z (by simp [hz])
theorem lastD_some {ps : List Wr} {x : Int} {b0 : List UInt8} {q : Nat} (hq : q < ps.length) (hp : (ps[q]).pos = x) (h : ∀ (j : Nat) (hj : j < ps.length), q < j → ¬ (ps[j]).pos = x) : lastD ps x b0 = (ps[q]).data := by
  have e : ps = ps.take q ++ ps[q] :: ps.drop (q + 1) := by rw [List.getElem_cons_drop, List.take_append_drop]
  have h2 : lastD ps x b0 = lastD (ps.drop (q + 1)) x (ps[q]).data := by
    conv => lhs; rw [e]
    unfold lastD
    rw [List.foldl_append, List.foldl_cons, if_pos hp]
  rw [h2, lastD_none]
  intro y hy
  obtain ⟨i, hi, rfl⟩ := List.getElem_of_mem hy
  rw [List.getElem_drop]
  simp at hi
  exact h _ (by omega) (by omega)
theorem readD_yes {d : DiskD} {x : Int} (hr : runsB d = true) (hh : hasB d x = true) : readD d x = (lastD d.pending x (d.sectors.getD x.toNat []), 0) := by simp [readD, hr, hh]

/- plain laws of the disk: no program here -/
def pad (b : List UInt8) : List UInt8 := b ++ List.replicate (128 - b.length) 0
theorem pad_length {b : List UInt8} (h : b.length ≤ 128) : (pad b).length = 128 := by simp [pad]; omega
theorem pad_take (b : List UInt8) : (pad b).take b.length = b := by simp [pad]
theorem okB_iff {d : DiskD} : okB d = true ↔ (1 ≤ d.sectors.length ∧ d.sectors.length ≤ 4096 ∧ d.pending.length ≤ 4096 ∧ -1 ≤ d.left ∧ d.left ≤ 65536) ∧ (∀ s ∈ d.sectors, s.length = 128) ∧ ∀ y ∈ d.pending, 0 ≤ y.pos ∧ y.pos < d.sectors.length ∧ y.data.length = 128 := by
  simp only [okB, headOk, Bool.and_eq_true, decide_eq_true_eq, List.all_eq_true, secOk, penOk]
  constructor
  · rintro ⟨⟨⟨⟨⟨⟨h1, h2⟩, h3⟩, h4⟩, h5⟩, h6⟩, h7⟩
    exact ⟨⟨h1, h2, h3, h4, h5⟩, h6, fun y hy => ⟨(h7 y hy).1.1, (h7 y hy).1.2, (h7 y hy).2⟩⟩
  · rintro ⟨⟨h1, h2, h3, h4, h5⟩, h6, h7⟩
    exact ⟨⟨⟨⟨⟨⟨h1, h2⟩, h3⟩, h4⟩, h5⟩, h6⟩, fun y hy => ⟨⟨(h7 y hy).1, (h7 y hy).2.1⟩, (h7 y hy).2.2⟩⟩
theorem runsB_iff {d : DiskD} : runsB d = true ↔ okB d = true ∧ d.stopped = false := by simp [runsB]
theorem hasB_iff {d : DiskD} {x : Int} : hasB d x = true ↔ 0 ≤ x ∧ x < d.sectors.length := by simp [hasB]
/-- a write that may be made -/
def wrote (d : DiskD) (x : Int) (b : List UInt8) : DiskD := ⟨d.sectors, d.pending ++ [⟨x, pad b⟩], d.left, d.stopped⟩
theorem writeD_yes {d : DiskD} {x : Int} {b : List UInt8} (hr : runsB d = true) (hh : hasB d x = true) (hb : b.length ≤ 128) (hp : d.pending.length < 4096) : writeD d x b = (wrote d x b, 0) := by
  simp only [writeD, hr, hh, Bool.and_self, if_true, if_pos hb, if_neg (show ¬ d.pending.length = 4096 by omega)]; rfl
theorem writeD_full {d : DiskD} {x : Int} {b : List UInt8} (hr : runsB d = true) (hh : hasB d x = true) (hb : b.length ≤ 128) (hp : d.pending.length = 4096) : writeD d x b = (zeroD, 2) := by
  simp only [writeD, hr, hh, Bool.and_self, if_true, if_pos hb, if_pos hp]
theorem writeD_code {d : DiskD} {x : Int} {b : List UInt8} (h : (writeD d x b).2 = 0) (hb : b.length ≤ 128) : runsB d = true ∧ hasB d x = true ∧ d.pending.length < 4096 := by
  unfold writeD at h
  by_cases h1 : (runsB d && hasB d x) = true
  · rw [if_pos h1, if_pos hb] at h
    simp only [Bool.and_eq_true] at h1
    by_cases h3 : d.pending.length = 4096
    · rw [if_pos h3] at h; cases h
    · have hle := (okB_iff.1 (runsB_iff.1 h1.1).1).1.2.2.1
      exact ⟨h1.1, h1.2, by omega⟩
  · rw [if_neg h1] at h; cases h
theorem runs_wrote {d : DiskD} {x : Int} {b : List UInt8} (hr : runsB d = true) (hh : hasB d x = true) (hb : b.length ≤ 128) (hp : d.pending.length < 4096) : runsB (wrote d x b) = true := by
  obtain ⟨ho, hs⟩ := runsB_iff.1 hr
  obtain ⟨⟨h1, h2, h3, h4, h5⟩, h6, h7⟩ := okB_iff.1 ho
  refine runsB_iff.2 ⟨okB_iff.2 ⟨⟨h1, h2, by simp [wrote]; omega, h4, h5⟩, h6, fun y hy => ?_⟩, hs⟩
  rcases List.mem_append.1 hy with h | h
  · exact h7 y h
  · obtain rfl := List.mem_singleton.1 h
    have := hasB_iff.1 hh
    exact ⟨this.1, this.2, pad_length hb⟩
theorem has_wrote {d : DiskD} {x y : Int} {b : List UInt8} : hasB (wrote d x b) y = hasB d y := rfl
theorem lastD_one {ps : List Wr} {y : Wr} {x : Int} {b0 : List UInt8} : lastD (ps ++ [y]) x b0 = if y.pos = x then y.data else lastD ps x b0 := by
  unfold lastD; rw [List.foldl_append]; rfl
theorem readD_wrote {d : DiskD} {x y : Int} {b : List UInt8} (hr : runsB d = true) (hx : hasB d x = true) (hy : hasB d y = true) (hb : b.length ≤ 128) (hp : d.pending.length < 4096) :
    readD (wrote d x b) y = (if x = y then pad b else (readD d y).1, 0) := by
  rw [readD_yes (runs_wrote hr hx hb hp) (by rw [has_wrote]; exact hy), readD_yes hr hy]
  simp only [wrote, lastD_one]
theorem performD_get {ps : List Wr} {ss : List (List UInt8)} {k : Nat} (hk : k < ss.length) (h : ∀ y ∈ ps, 0 ≤ y.pos ∧ y.pos < ss.length) : (performD ss ps).getD k [] = lastD ps (k : Int) (ss.getD k []) := by
  induction ps generalizing ss with
  | nil => rfl
  | cons y r ih =>
    have hy := h y (by simp)
    have e1 : performD ss (y :: r) = performD (ss.set y.pos.toNat y.data) r := rfl
    have e2 : lastD (y :: r) (k : Int) (ss.getD k []) = lastD r (k : Int) (if y.pos = (k : Int) then y.data else ss.getD k []) := rfl
    rw [e1, e2, ih (by simpa using hk) (fun z hz => by simpa using h z (by simp [hz]))]
    congr 1
    by_cases e : y.pos = (k : Int)
    · rw [if_pos e, List.getD_eq_getElem?_getD, List.getElem?_set]
      have : y.pos.toNat = k := by omega
      rw [if_pos this, if_pos (by omega), Option.getD_some]
    · rw [if_neg e, List.getD_eq_getElem?_getD, List.getElem?_set, if_neg (by omega), ← List.getD_eq_getElem?_getD]
theorem performD_sizes {ps : List Wr} {ss : List (List UInt8)} (hs : ∀ s ∈ ss, s.length = 128) (hp : ∀ y ∈ ps, y.data.length = 128) : ∀ s ∈ performD ss ps, s.length = 128 := by
  induction ps generalizing ss with
  | nil => exact hs
  | cons y r ih =>
    refine ih (ss := ss.set y.pos.toNat y.data) (fun s h => ?_) (fun z hz => hp z (by simp [hz]))
    rcases List.mem_or_eq_of_mem_set h with h | h
    · exact hs s h
    · rw [h]; exact hp y (by simp)
/-- a disk with all its writes performed -/
def synced (d : DiskD) : DiskD := ⟨performD d.sectors d.pending, [], if 0 ≤ d.left then d.left - d.pending.length else d.left, false⟩
def halted (d : DiskD) : DiskD := ⟨performD d.sectors (d.pending.take d.left.toNat), [], 0, true⟩
theorem syncD_stop {d : DiskD} (hr : runsB d = true) (h : 0 ≤ d.left ∧ d.left < d.pending.length) : syncD d = (halted d, 340) := by
  simp only [syncD, hr, if_true, if_pos h]; rfl
theorem syncD_go {d : DiskD} (hr : runsB d = true) (h : ¬ (0 ≤ d.left ∧ d.left < d.pending.length)) : syncD d = (synced d, 0) := by
  simp only [syncD, hr, if_true, if_neg h]; rfl
theorem runs_synced {d : DiskD} (hr : runsB d = true) (h : ¬ (0 ≤ d.left ∧ d.left < d.pending.length)) : runsB (synced d) = true := by
  obtain ⟨ho, hs⟩ := runsB_iff.1 hr
  obtain ⟨⟨h1, h2, h3, h4, h5⟩, h6, h7⟩ := okB_iff.1 ho
  refine runsB_iff.2 ⟨okB_iff.2 ⟨⟨by simp only [synced, performD_length]; exact h1, by simp only [synced, performD_length]; exact h2, by simp [synced], ?_, ?_⟩, performD_sizes h6 fun y hy => (h7 y hy).2.2, fun y hy => absurd hy (by simp [synced])⟩, rfl⟩
  · simp only [synced]; split <;> omega
  · simp only [synced]; split <;> omega
theorem has_synced {d : DiskD} {x : Int} : hasB (synced d) x = hasB d x := by simp [hasB, synced, performD_length]
theorem readD_synced {d : DiskD} (hr : runsB d = true) (h : ¬ (0 ≤ d.left ∧ d.left < d.pending.length)) {k : Nat} (hk : k < d.sectors.length) : readD (synced d) k = readD d k := by
  have hh : hasB d k = true := hasB_iff.2 ⟨by omega, by omega⟩
  obtain ⟨-, -, h7⟩ := okB_iff.1 (runsB_iff.1 hr).1
  rw [readD_yes (runs_synced hr h) (by rw [has_synced]; exact hh), readD_yes hr hh, Int.toNat_natCast]
  congr 1
  exact performD_get hk fun y hy => ⟨(h7 y hy).1, (h7 y hy).2.1⟩
theorem readD_code {d : DiskD} {x : Int} (h : (readD d x).2 = 0) : runsB d = true ∧ hasB d x = true := by
  unfold readD at h
  by_cases h1 : (runsB d && hasB d x) = true
  · simpa using h1
  · rw [if_neg h1] at h; cases h
theorem chk_runs {d : DiskD} (h : runsB d = true) : chk d = 0 := chk_of (runsB_iff.1 h).1
end Go.Proofs.Ytocjhepiooljpaa
