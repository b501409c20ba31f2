/- Sectors, Used, Check and Room, of the package and of the reference. -/
import Derived.Test.YtocjhepiooljpaaA3
import Derived.Test.YtocjhepiooljpaaK1
namespace Go.Proofs.Ytocjhepiooljpaa
open Go.RowKit Go.Deep Go.Shelf

/-- what records occupy, as the program adds it up -/
def usedI (rs : List (List UInt8)) : Int := rs.foldl (fun n b => wrap64 (n + (secs b.length : Int))) 0
theorem usedI_snoc (rs : List (List UInt8)) (k : Nat) (h : k < rs.length) : usedI (rs.take (k + 1)) = wrap64 (usedI (rs.take k) + (secs (rs[k]).length : Int)) := by
  unfold usedI
  rw [List.take_add_one, List.getElem?_eq_getElem h, Option.toList_some, List.foldl_append]
  rfl
theorem usedI_small : ∀ {rs : List (List UInt8)}, used rs < 4611686018427387904 → usedI rs = (used rs : Int) := by
  have key : ∀ (rs : List (List UInt8)) (n : Nat), n + used rs < 4611686018427387904 → rs.foldl (fun n b => wrap64 (n + (secs b.length : Int))) (n : Int) = ((n + used rs : Nat) : Int) := fun rs => by
    induction rs with
    | nil => intro n _; rfl
    | cons b r ih =>
      intro n h
      rw [used_cons] at h ⊢
      rw [List.foldl_cons, IntWalk.wrap64_in _ (by omega), ← Int.natCast_add, ih _ (by omega)]
      congr 1
      omega
  intro rs h
  have := key rs 0 (by omega)
  rw [Nat.zero_add] at this
  exact this
/-- each record fits into memory -/
def LensR (rs : List (List UInt8)) : Prop := ∀ (i : Nat) (h : i < rs.length), (rs[i]).length ≤ 140737488355328
theorem wrap64_range (x : Int) : -9223372036854775808 ≤ wrap64 x ∧ wrap64 x ≤ 9223372036854775807 := by unfold wrap64; omega
theorem usedI_range {rs : List (List UInt8)} : -9223372036854775808 ≤ usedI rs ∧ usedI rs ≤ 9223372036854775807 := by
  obtain ⟨r, rfl⟩ : ∃ r : List (List UInt8), rs = r.reverse := ⟨rs.reverse, by simp⟩
  unfold usedI
  cases r with
  | nil => simp
  | cons b r =>
    rw [List.reverse_cons, List.foldl_append]
    exact wrap64_range _

set_option maxRecDepth 20000 in
set_option maxHeartbeats 1000000 in
theorem sectors_any (w : World) (A : Option Addr) (n c : Nat) (hn : n ≤ 140737488355328) :
    Calls Try.prog 35 #[.slice A n c] w fun e w' => e = .returned (.int .i64 (secs n : Nat)) ∧ w = w' := by
  go_enter Try.func35, Try.ntmps35
  go_wp2
  all_goals
    go_ret
    refine ⟨?_, rfl⟩
    unfold secs
    show Ending.returned (.int .i64 _) = _
    congr 2
    first | omega | (have : ((n : Int) + 116 - 1) / 116 = ((n + 115) / 116 : Nat) := by omega
                     omega)

set_option maxRecDepth 20000 in
set_option maxHeartbeats 1000000 in
theorem refSectors_any (w : World) (n : Nat) (hn : n ≤ 140737488355328) :
    Calls Try.prog 39 #[.int .i64 (n : Int)] w fun e w' => e = .returned (.int .i64 (secs n : Nat)) ∧ w = w' := by
  go_enter Try.func39, Try.ntmps39
  go_wp2
  all_goals
    go_ret
    refine ⟨?_, rfl⟩
    unfold secs
    show Ending.returned (.int .i64 _) = _
    congr 2
    first | omega | (have : ((n : Int) + 116 - 1) / 116 = ((n + 115) / 116 : Nat) := by omega
                     omega)
set_option maxRecDepth 20000 in
set_option maxHeartbeats 1000000 in
theorem used_any (w : World) (M : Nat → Prop) (A : Option Addr) (c : Nat) (rs : List (List UInt8)) (hl : rs.length ≤ 140737488355328) (hl2 : LensR rs) (h : MatC w M A rs) :
    Calls Try.prog 36 #[.slice A rs.length c] w fun e w' => e = .returned (.int .i64 (usedI rs)) ∧ w' = w := by
  have HS := Lib.hid h
  clear h
  have CS := fun W A n c hn => Lib.hid (sectors_any W A n c hn)
  go_enter Try.func36, Try.ntmps36
  go_wp2_with fail
  go_loopw [2, 7] (fun n i wr => ∃ (k : Nat) (x : Int), k ≤ rs.length ∧ i = .int .i64 (k : Int) ∧ n = .int .i64 x ∧ Hid (x = usedI (rs.take k)) ∧ Hid (wr = w)) (fun _ i _ => rs.length - (intOf i).toNat)
  case atStart => exact ⟨0, 0, Nat.zero_le _, rfl, rfl, Lib.hid rfl, Lib.hid rfl⟩
  case round =>
    obtain ⟨k, x, hk, rfl, rfl, HX, HB⟩ := hrel
    by_cases hlt : k < rs.length
    · obtain ⟨b, off, bA, bc, rfl, hbl, hck, hb1, hb2, hb3⟩ := HS.out.at_ (same_below HB.out) hlt
      have hk0 : (0 : Int) ≤ (k : Int) := by omega
      have hk1 : (k : Int) < (rs.length : Int) := by omega
      have HLE := Lib.hid (hl2 k hlt)
      clear hb3
      obtain ⟨m, hm⟩ : ∃ m, m = (rs[k]).length := ⟨_, rfl⟩
      rw [← hm] at hck hb1 HLE
      have HM := Lib.hid hm
      clear hm
      go_wp2_with (go_at_call 35; refine (CS _ _ _ _ HLE.out).out.mono ?_; rintro e w2 ⟨rfl, rfl⟩)
      go_roundw
      case rel => exact ⟨k + 1, wrap64 (x + (secs m : Nat)), by omega, rfl, rfl, Lib.hid (by rw [usedI_snoc _ _ hlt, ← HX.out, ← HM.out]), HB⟩
      case measure => simp [intOf]; omega
    · go_wp2_with fail
      go_ret
      rw [HX.out, show k = rs.length by omega, List.take_length]
      exact ⟨rfl, HB.out⟩
set_option maxRecDepth 20000 in
set_option maxHeartbeats 1000000 in
theorem refUsed_any (w : World) (M : Nat → Prop) (A : Option Addr) (c : Nat) (rs : List (List UInt8)) (hl : rs.length ≤ 140737488355328) (hl2 : LensR rs) (h : MatC w M A rs) :
    Calls Try.prog 40 #[.slice A rs.length c] w fun e w' => e = .returned (.int .i64 (usedI rs)) ∧ w' = w := by
  have HS := Lib.hid h
  clear h
  have CS := fun W n hn => Lib.hid (refSectors_any W n hn)
  go_enter Try.func40, Try.ntmps40
  go_wp2_with fail
  go_loopw [3, 4] (fun n i wr => ∃ (k : Nat) (x : Int), k ≤ rs.length ∧ i = .int .i64 (k : Int) ∧ n = .int .i64 x ∧ Hid (x = usedI (rs.take k)) ∧ Hid (wr = w)) (fun _ i _ => rs.length - (intOf i).toNat)
  case atStart => exact ⟨0, 0, Nat.zero_le _, rfl, rfl, Lib.hid rfl, Lib.hid rfl⟩
  case round =>
    obtain ⟨k, x, hk, rfl, rfl, HX, HB⟩ := hrel
    by_cases hlt : k < rs.length
    · obtain ⟨b, off, bA, bc, rfl, hbl, hck, hb1, hb2, hb3⟩ := HS.out.at_ (same_below HB.out) hlt
      have hk0 : (0 : Int) ≤ (k : Int) := by omega
      have hk1 : (k : Int) < (rs.length : Int) := by omega
      have HLE := Lib.hid (hl2 k hlt)
      clear hb3
      obtain ⟨m, hm⟩ : ∃ m, m = (rs[k]).length := ⟨_, rfl⟩
      rw [← hm] at hck hb1 HLE
      have HM := Lib.hid hm
      clear hm
      go_wp2_with (go_at_call 39; refine (CS _ _ HLE.out).out.mono ?_; rintro e w2 ⟨rfl, rfl⟩)
      go_roundw
      case rel => exact ⟨k + 1, wrap64 (x + (secs m : Nat)), by omega, rfl, rfl, Lib.hid (by rw [usedI_snoc _ _ hlt, ← HX.out, ← HM.out]), HB⟩
      case measure => simp [intOf]; omega
    · go_wp2_with fail
      go_ret
      rw [HX.out, show k = rs.length by omega, List.take_length]
      exact ⟨rfl, HB.out⟩

/-- a log -/
structure LogD where
  many : Int
  recs : List (List UInt8)
  synced : Int
  deriving DecidableEq
def zeroL : LogD := ⟨0, [], 0⟩
def IsLog (w : World) (M : Nat → Prop) (v : Value) (l : LogD) : Prop := ∃ rv, v = .agg #[.int .i64 l.many, rv, .int .i64 l.synced] ∧ IsMat w M rv l.recs
section
variable {w w' : World} {M M' : Nat → Prop} {v : Value} {l : LogD}
theorem IsLog.keep (h : IsLog w M v l) (hk : ∀ p : Addr, M p.block → p.block < w.heap.size → w'.cell? p = w.cell? p) : IsLog w' M v l := by
  obtain ⟨rv, e, h1⟩ := h; exact ⟨rv, e, h1.keep hk⟩
theorem IsLog.below (h : IsLog w M v l) (hb : Below w.heap.size w w') : IsLog w' M v l := h.keep fun _ _ hp => hb.cell hp
theorem IsLog.mono (h : IsLog w M v l) (hM : ∀ b, b < w.heap.size → M b → M' b) : IsLog w M' v l := by
  obtain ⟨rv, e, h1⟩ := h; exact ⟨rv, e, h1.mono hM⟩
theorem IsLog.zero : IsLog w M (.agg #[.int .i64 0, .slice none 0 0, .int .i64 0]) zeroL := ⟨_, rfl, IsMat.nil⟩
end
/-- what Check answers -/
def okL (l : LogD) : Bool := decide (1 ≤ l.many) && decide (l.many ≤ 4096) && decide (0 ≤ l.synced) && decide (l.synced ≤ l.recs.length) && decide (usedI l.recs ≤ l.many)
def chkL (l : LogD) : Int := if okL l then 0 else 1
/-- lists that fit into memory -/
structure FitR (rs : List (List UInt8)) : Prop where
  len : rs.length * 24 ≤ 140737488351232
  lens : LensR rs

set_option maxRecDepth 20000 in
set_option maxHeartbeats 1000000 in
theorem lcheck_any (w : World) (M : Nat → Prop) (l : LogD) (v : Value) (hf : FitR l.recs) (h : IsLog w M v l) :
    Calls Try.prog 17 #[v] w fun e w' => e = .returned (.int .i64 (chkL l)) ∧ Below w.heap.size w w' := by
  obtain ⟨rv, rfl, A, c, rfl, hc1, hc2, hm⟩ := h
  have hfl := hf.len
  have CU := fun W (hB : Below w.heap.size w W) => Lib.hid (used_any W M A c l.recs (by omega) hf.lens (hm.keep fun _ _ hp => hB.cell hp))
  clear hm
  obtain ⟨many, rs, synced⟩ := l
  dsimp only at *
  have hlen : rs.length ≤ 140737488355328 := by omega
  clear hf hfl
  have hcases : many < 1 ∨ (1 ≤ many ∧ 4096 < many) ∨ (1 ≤ many ∧ many ≤ 4096 ∧ synced < 0) ∨ (1 ≤ many ∧ many ≤ 4096 ∧ 0 ≤ synced ∧ (rs.length : Int) < synced) ∨ (1 ≤ many ∧ many ≤ 4096 ∧ 0 ≤ synced ∧ synced ≤ (rs.length : Int)) := by omega
  rcases hcases with h1 | ⟨h1, h2⟩ | ⟨h1, h2, h3⟩ | ⟨h1, h2, h3, h4⟩ | ⟨h1, h2, h3, h4⟩
  · have HC : Hid (chkL ⟨many, rs, synced⟩ = 1) := by simp [Hid, chkL, okL]; omega
    have d1 : decide (many < 1) = true := decide_eq_true (by omega)
    clear h1 CU
    go_enter Try.func17, Try.ntmps17
    go_wp2_with fail
    go_quiet (fail)
    go_wp2_with fail
    go_ret
    exact ⟨by rw [HC.out]; rfl, below_drewN ((Below.refl _ _).alloc (Nat.le_refl _) _) _⟩
  · have HC : Hid (chkL ⟨many, rs, synced⟩ = 1) := by simp [Hid, chkL, okL]; omega
    have d1 : decide (many < 1) = false := decide_eq_false (by omega)
    have d2 : decide (4096 < many) = true := decide_eq_true (by omega)
    clear h1 h2 CU
    go_enter Try.func17, Try.ntmps17
    go_wp2_with fail
    go_quiet (fail)
    go_wp2_with fail
    go_ret
    exact ⟨by rw [HC.out]; rfl, below_drewN ((Below.refl _ _).alloc (Nat.le_refl _) _) _⟩
  · have HC : Hid (chkL ⟨many, rs, synced⟩ = 1) := by simp [Hid, chkL, okL]; omega
    have d1 : decide (many < 1) = false := decide_eq_false (by omega)
    have d2 : decide (4096 < many) = false := decide_eq_false (by omega)
    have d3 : decide (synced < 0) = true := decide_eq_true (by omega)
    clear h1 h2 h3 CU
    go_enter Try.func17, Try.ntmps17
    go_wp2_with fail
    go_quiet (fail)
    go_wp2_with fail
    go_ret
    exact ⟨by rw [HC.out]; rfl, below_drewN ((Below.refl _ _).alloc (Nat.le_refl _) _) _⟩
  · have HC : Hid (chkL ⟨many, rs, synced⟩ = 1) := by simp [Hid, chkL, okL]; omega
    have d1 : decide (many < 1) = false := decide_eq_false (by omega)
    have d2 : decide (4096 < many) = false := decide_eq_false (by omega)
    have d3 : decide (synced < 0) = false := decide_eq_false (by omega)
    have d4 : decide ((rs.length : Int) < synced) = true := decide_eq_true (by omega)
    clear h1 h2 h3 h4 CU
    go_enter Try.func17, Try.ntmps17
    go_wp2_with fail
    go_quiet (fail)
    go_wp2_with fail
    go_ret
    exact ⟨by rw [HC.out]; rfl, below_drewN ((Below.refl _ _).alloc (Nat.le_refl _) _) _⟩
  · have hz : chkL ⟨many, rs, synced⟩ = if usedI rs ≤ many then 0 else 1 := by
      unfold chkL okL
      dsimp only
      rw [decide_eq_true h1, decide_eq_true h2, decide_eq_true h3, decide_eq_true h4]
      simp
    have HC := Lib.hid hz
    have d1 : decide (many < 1) = false := decide_eq_false (by omega)
    have d2 : decide (4096 < many) = false := decide_eq_false (by omega)
    have d3 : decide (synced < 0) = false := decide_eq_false (by omega)
    have d4 : decide ((rs.length : Int) < synced) = false := decide_eq_false (by omega)
    obtain ⟨x, hx⟩ : ∃ x, x = usedI rs := ⟨_, rfl⟩
    rw [← hx] at CU HC
    clear h1 h2 h3 h4 hx hz
    go_enter Try.func17, Try.ntmps17
    go_wp2_with fail
    refine nameC fun W1 hW1 => ?_
    have HB1 : Hid (Below w.heap.size w W1) := Lib.hid (by rw [hW1.out]; exact (Below.refl _ _).alloc (Nat.le_refl _) _)
    have hk1 : W1.heap[w.heap.size]? = some (.cells #[.int .i64 many, .slice A rs.length c, .int .i64 synced] 29 (0, 0)) := by rw [hW1.out, heap_alloc_if, if_pos rfl]
    have c0 : W1.cell? ⟨w.heap.size, 0, none⟩ = some (.int .i64 many) := cell_of hk1 rfl
    have c1 : W1.cell? ⟨w.heap.size, 1, none⟩ = some (.slice A rs.length c) := cell_of hk1 rfl
    have c2 : W1.cell? ⟨w.heap.size, 2, none⟩ = some (.int .i64 synced) := cell_of hk1 rfl
    clear hW1 hk1
    by_cases hm : many < x
    · have HC2 := Lib.hid (HC.out.trans (if_neg (by omega)))
      have d5 : decide (many < x) = true := decide_eq_true hm
      go_quiet ((go_at_call 36; exact Calls.quiet_of_same (CU _ (below_drewN HB1.out _)).out))
      go_wp2_with fail
      go_ret
      exact ⟨by rw [HC2.out]; rfl, below_drewN HB1.out _⟩
    · have HC2 := Lib.hid (HC.out.trans (if_pos (by omega)))
      have d5 : decide (many < x) = false := decide_eq_false hm
      go_quiet ((go_at_call 36; exact Calls.quiet_of_same (CU _ (below_drewN HB1.out _)).out))
      go_wp2_with fail
      go_ret
      exact ⟨by rw [HC2.out]; rfl, below_drewN HB1.out _⟩

set_option maxRecDepth 20000 in
set_option maxHeartbeats 1000000 in
theorem refLcheck_any (w : World) (M : Nat → Prop) (l : LogD) (v : Value) (hf : FitR l.recs) (h : IsLog w M v l) :
    Calls Try.prog 18 #[v] w fun e w' => e = .returned (.int .i64 (chkL l)) ∧ Below w.heap.size w w' := by
  obtain ⟨rv, rfl, A, c, rfl, hc1, hc2, hm⟩ := h
  have hfl := hf.len
  have CU := fun W (hB : Below w.heap.size w W) => Lib.hid (refUsed_any W M A c l.recs (by omega) hf.lens (hm.keep fun _ _ hp => hB.cell hp))
  clear hm
  obtain ⟨many, rs, synced⟩ := l
  dsimp only at *
  have hlen : rs.length ≤ 140737488355328 := by omega
  clear hf hfl
  have hcases : many < 1 ∨ (1 ≤ many ∧ 4096 < many) ∨ (1 ≤ many ∧ many ≤ 4096 ∧ synced < 0) ∨ (1 ≤ many ∧ many ≤ 4096 ∧ 0 ≤ synced ∧ (rs.length : Int) < synced) ∨ (1 ≤ many ∧ many ≤ 4096 ∧ 0 ≤ synced ∧ synced ≤ (rs.length : Int)) := by omega
  rcases hcases with h1 | ⟨h1, h2⟩ | ⟨h1, h2, h3⟩ | ⟨h1, h2, h3, h4⟩ | ⟨h1, h2, h3, h4⟩
  · have HC : Hid (chkL ⟨many, rs, synced⟩ = 1) := by simp [Hid, chkL, okL]; omega
    have d1 : decide (many < 1) = true := decide_eq_true (by omega)
    clear h1 CU
    go_enter Try.func18, Try.ntmps18
    go_wp2_with fail
    go_quiet (fail)
    go_wp2_with fail
    go_ret
    exact ⟨by rw [HC.out]; rfl, below_drewN ((Below.refl _ _).alloc (Nat.le_refl _) _) _⟩
  · have HC : Hid (chkL ⟨many, rs, synced⟩ = 1) := by simp [Hid, chkL, okL]; omega
    have d1 : decide (many < 1) = false := decide_eq_false (by omega)
    have d2 : decide (4096 < many) = true := decide_eq_true (by omega)
    clear h1 h2 CU
    go_enter Try.func18, Try.ntmps18
    go_wp2_with fail
    go_quiet (fail)
    go_wp2_with fail
    go_ret
    exact ⟨by rw [HC.out]; rfl, below_drewN ((Below.refl _ _).alloc (Nat.le_refl _) _) _⟩
  · have HC : Hid (chkL ⟨many, rs, synced⟩ = 1) := by simp [Hid, chkL, okL]; omega
    have d1 : decide (many < 1) = false := decide_eq_false (by omega)
    have d2 : decide (4096 < many) = false := decide_eq_false (by omega)
    have d3 : decide (synced < 0) = true := decide_eq_true (by omega)
    clear h1 h2 h3 CU
    go_enter Try.func18, Try.ntmps18
    go_wp2_with fail
    go_quiet (fail)
    go_wp2_with fail
    go_ret
    exact ⟨by rw [HC.out]; rfl, below_drewN ((Below.refl _ _).alloc (Nat.le_refl _) _) _⟩
  · have HC : Hid (chkL ⟨many, rs, synced⟩ = 1) := by simp [Hid, chkL, okL]; omega
    have d1 : decide (many < 1) = false := decide_eq_false (by omega)
    have d2 : decide (4096 < many) = false := decide_eq_false (by omega)
    have d3 : decide (synced < 0) = false := decide_eq_false (by omega)
    have d4 : decide ((rs.length : Int) < synced) = true := decide_eq_true (by omega)
    clear h1 h2 h3 h4 CU
    go_enter Try.func18, Try.ntmps18
    go_wp2_with fail
    go_quiet (fail)
    go_wp2_with fail
    go_ret
    exact ⟨by rw [HC.out]; rfl, below_drewN ((Below.refl _ _).alloc (Nat.le_refl _) _) _⟩
  · have hz : chkL ⟨many, rs, synced⟩ = if usedI rs ≤ many then 0 else 1 := by
      unfold chkL okL
      dsimp only
      rw [decide_eq_true h1, decide_eq_true h2, decide_eq_true h3, decide_eq_true h4]
      simp
    have HC := Lib.hid hz
    have d1 : decide (many < 1) = false := decide_eq_false (by omega)
    have d2 : decide (4096 < many) = false := decide_eq_false (by omega)
    have d3 : decide (synced < 0) = false := decide_eq_false (by omega)
    have d4 : decide ((rs.length : Int) < synced) = false := decide_eq_false (by omega)
    obtain ⟨x, hx⟩ : ∃ x, x = usedI rs := ⟨_, rfl⟩
    rw [← hx] at CU HC
    clear h1 h2 h3 h4 hx hz
    go_enter Try.func18, Try.ntmps18
    go_wp2_with fail
    refine nameC fun W1 hW1 => ?_
    have HB1 : Hid (Below w.heap.size w W1) := Lib.hid (by rw [hW1.out]; exact (Below.refl _ _).alloc (Nat.le_refl _) _)
    have hk1 : W1.heap[w.heap.size]? = some (.cells #[.int .i64 many, .slice A rs.length c, .int .i64 synced] 29 (0, 0)) := by rw [hW1.out, heap_alloc_if, if_pos rfl]
    have c0 : W1.cell? ⟨w.heap.size, 0, none⟩ = some (.int .i64 many) := cell_of hk1 rfl
    have c1 : W1.cell? ⟨w.heap.size, 1, none⟩ = some (.slice A rs.length c) := cell_of hk1 rfl
    have c2 : W1.cell? ⟨w.heap.size, 2, none⟩ = some (.int .i64 synced) := cell_of hk1 rfl
    clear hW1 hk1
    by_cases hm : many < x
    · have HC2 := Lib.hid (HC.out.trans (if_neg (by omega)))
      have d5 : decide (many < x) = true := decide_eq_true hm
      go_quiet ((go_at_call 40; exact Calls.quiet_of_same (CU _ (below_drewN HB1.out _)).out))
      go_wp2_with fail
      go_ret
      exact ⟨by rw [HC2.out]; rfl, below_drewN HB1.out _⟩
    · have HC2 := Lib.hid (HC.out.trans (if_pos (by omega)))
      have d5 : decide (many < x) = false := decide_eq_false hm
      go_quiet ((go_at_call 40; exact Calls.quiet_of_same (CU _ (below_drewN HB1.out _)).out))
      go_wp2_with fail
      go_ret
      exact ⟨by rw [HC2.out]; rfl, below_drewN HB1.out _⟩

/-- what Room answers -/
def roomL (l : LogD) : Int := if chkL l = 0 then wrap64 (116 * wrap64 (l.many - usedI l.recs)) else 0
set_option maxRecDepth 20000 in
set_option maxHeartbeats 1000000 in
theorem room_any (w : World) (M : Nat → Prop) (l : LogD) (v : Value) (hf : FitR l.recs) (h : IsLog w M v l) :
    Calls Try.prog 19 #[v] w fun e w' => e = .returned (.int .i64 (roomL l)) ∧ Below w.heap.size w w' := by
  have CC := fun W (hB : Below w.heap.size w W) => Lib.hid (lcheck_any W M l v hf (h.below hB))
  obtain ⟨rv, rfl, A, c, rfl, hc1, hc2, hm⟩ := h
  have hfl := hf.len
  have CU := fun W (hB : Below w.heap.size w W) => Lib.hid (used_any W M A c l.recs (by omega) hf.lens (hm.keep fun _ _ hp => hB.cell hp))
  clear hm
  obtain ⟨x, hx⟩ : ∃ x, x = usedI l.recs := ⟨_, rfl⟩
  obtain ⟨y, hy⟩ : ∃ y, y = chkL l := ⟨_, rfl⟩
  have HR : Hid (roomL l = if y = 0 then wrap64 (116 * wrap64 (l.many - x)) else 0) := Lib.hid (by unfold roomL; rw [hx, hy])
  rw [← hx] at CU
  rw [← hy] at CC
  obtain ⟨many, rs, synced⟩ := l
  dsimp only at *
  have hlen : rs.length ≤ 140737488355328 := by omega
  clear hf hfl hx hy
  go_enter Try.func19, Try.ntmps19
  go_wp2_with fail
  refine nameW fun W1 hW1 => ?_
  have HB1 : Hid (Below w.heap.size w W1) := Lib.hid (by rw [hW1.out]; exact (Below.refl _ _).alloc (Nat.le_refl _) _)
  have hk1 : W1.heap[w.heap.size]? = some (.cells #[.int .i64 many, .slice A rs.length c, .int .i64 synced] 29 (0, 0)) := by rw [hW1.out, heap_alloc_if, if_pos rfl]
  refine (CC W1 HB1.out).out.mono ?_
  rintro e W2 ⟨rfl, hb2⟩
  have HB2 := Lib.hid (HB1.out.trans (hb2.mono HB1.out.size))
  have hk2 := (hb2.block _ (lt_heap hk1)).trans hk1
  have c0 : W2.cell? ⟨w.heap.size, 0, none⟩ = some (.int .i64 many) := cell_of hk2 rfl
  have c1 : W2.cell? ⟨w.heap.size, 1, none⟩ = some (.slice A rs.length c) := cell_of hk2 rfl
  clear hW1 hk1 hk2 hb2 HB1
  by_cases hy : y = 0
  · have hyb : (y != 0) = false := by rw [hy]; rfl
    have HZ := Lib.hid (HR.out.trans (if_pos hy))
    clear hy
    go_wp2_with fail
    go_quiet ((go_at_call 36; exact Calls.quiet_of_same (CU _ (below_drewN HB2.out _)).out))
    go_wp2_with fail
    go_ret
    exact ⟨by rw [HZ.out]; rfl, below_drewN HB2.out _⟩
  · have hyb : (y != 0) = true := by rw [bne_iff_ne]; exact hy
    have HZ := Lib.hid (HR.out.trans (if_neg hy))
    clear hy
    go_wp2_with fail
    go_ret
    exact ⟨by rw [HZ.out]; rfl, HB2.out⟩

set_option maxRecDepth 20000 in
set_option maxHeartbeats 1000000 in
theorem refRoom_any (w : World) (M : Nat → Prop) (l : LogD) (v : Value) (hf : FitR l.recs) (h : IsLog w M v l) :
    Calls Try.prog 20 #[v] w fun e w' => e = .returned (.int .i64 (roomL l)) ∧ Below w.heap.size w w' := by
  have CC := fun W (hB : Below w.heap.size w W) => Lib.hid (refLcheck_any W M l v hf (h.below hB))
  obtain ⟨rv, rfl, A, c, rfl, hc1, hc2, hm⟩ := h
  have hfl := hf.len
  have CU := fun W (hB : Below w.heap.size w W) => Lib.hid (refUsed_any W M A c l.recs (by omega) hf.lens (hm.keep fun _ _ hp => hB.cell hp))
  clear hm
  obtain ⟨x, hx⟩ : ∃ x, x = usedI l.recs := ⟨_, rfl⟩
  obtain ⟨y, hy⟩ : ∃ y, y = chkL l := ⟨_, rfl⟩
  have HR : Hid (roomL l = if y = 0 then wrap64 (116 * wrap64 (l.many - x)) else 0) := Lib.hid (by unfold roomL; rw [hx, hy])
  rw [← hx] at CU
  rw [← hy] at CC
  obtain ⟨many, rs, synced⟩ := l
  dsimp only at *
  have hlen : rs.length ≤ 140737488355328 := by omega
  clear hf hfl hx hy
  go_enter Try.func20, Try.ntmps20
  go_wp2_with fail
  refine nameW fun W1 hW1 => ?_
  have HB1 : Hid (Below w.heap.size w W1) := Lib.hid (by rw [hW1.out]; exact (Below.refl _ _).alloc (Nat.le_refl _) _)
  have hk1 : W1.heap[w.heap.size]? = some (.cells #[.int .i64 many, .slice A rs.length c, .int .i64 synced] 29 (0, 0)) := by rw [hW1.out, heap_alloc_if, if_pos rfl]
  refine (CC W1 HB1.out).out.mono ?_
  rintro e W2 ⟨rfl, hb2⟩
  have HB2 := Lib.hid (HB1.out.trans (hb2.mono HB1.out.size))
  have hk2 := (hb2.block _ (lt_heap hk1)).trans hk1
  have c0 : W2.cell? ⟨w.heap.size, 0, none⟩ = some (.int .i64 many) := cell_of hk2 rfl
  have c1 : W2.cell? ⟨w.heap.size, 1, none⟩ = some (.slice A rs.length c) := cell_of hk2 rfl
  clear hW1 hk1 hk2 hb2 HB1
  by_cases hy : y = 0
  · have hyb : (y != 0) = false := by rw [hy]; rfl
    have HZ := Lib.hid (HR.out.trans (if_pos hy))
    clear hy
    go_wp2_with fail
    go_quiet ((go_at_call 40; exact Calls.quiet_of_same (CU _ (below_drewN HB2.out _)).out))
    go_wp2_with fail
    go_ret
    exact ⟨by rw [HZ.out]; rfl, below_drewN HB2.out _⟩
  · have hyb : (y != 0) = true := by rw [bne_iff_ne]; exact hy
    have HZ := Lib.hid (HR.out.trans (if_neg hy))
    clear hy
    go_wp2_with fail
    go_ret
    exact ⟨by rw [HZ.out]; rfl, HB2.out⟩

end Go.Proofs.Ytocjhepiooljpaa
