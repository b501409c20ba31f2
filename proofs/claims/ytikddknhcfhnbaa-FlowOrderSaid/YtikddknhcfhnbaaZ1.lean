/- Plain laws of networks, first part. -/
import Derived.Test.YtikddknhcfhnbaaInts
/- The specification of chapter 27: networks, flows, sides. No program here. -/
namespace Go.Proofs.Ytikddknhcfhnbaa
/-- an arc -/
structure ArcD where
  src : Int
  dst : Int
  cap : Int
/-- a network -/
structure NetD where
  vs : Int
  arcs : List ArcD
def nthA (l : List ArcD) (k : Nat) : ArcD := l.getD k ⟨0, 0, 0⟩
theorem nthA_get {l : List ArcD} {k : Nat} (h : k < l.length) : nthA l k = l[k] := by
  unfold nthA; rw [List.getD_eq_getElem?_getD, List.getElem?_eq_getElem h]; rfl
def okA (V : Int) (a : ArcD) : Bool := decide (0 ≤ a.src) && (decide (a.src < V - 1) && (decide (0 < a.dst) && (decide (a.dst < V) && (!decide (a.src = a.dst) && (decide (0 ≤ a.cap) && decide (a.cap ≤ 1073741824))))))
theorem okA_iff {V : Int} {a : ArcD} : okA V a = true ↔ 0 ≤ a.src ∧ a.src < V - 1 ∧ 0 < a.dst ∧ a.dst < V ∧ a.src ≠ a.dst ∧ 0 ≤ a.cap ∧ a.cap ≤ 1073741824 := by
  unfold okA
  simp only [Bool.and_eq_true, decide_eq_true_eq, Bool.not_eq_true', decide_eq_false_iff_not, ne_eq]
theorem okA_no {V : Int} {a : ArcD} (h : ¬ (0 ≤ a.src ∧ a.src < V - 1 ∧ 0 < a.dst ∧ a.dst < V ∧ a.src ≠ a.dst ∧ 0 ≤ a.cap ∧ a.cap ≤ 1073741824)) : okA V a = false := by
  rw [← Bool.not_eq_true, okA_iff]; exact h
def sizeN (n : NetD) : Bool := decide (2 ≤ n.vs) && (decide (n.vs ≤ 512) && decide (n.arcs.length ≤ 4096))
def chkN (n : NetD) : Bool := sizeN n && n.arcs.all (okA n.vs)
/-- what Check answers -/
def chkF (n : NetD) : Int := if chkN n then 0 else 270
theorem chkF_yes {n : NetD} (h : chkN n = true) : chkF n = 0 := by unfold chkF; rw [if_pos h]
theorem chkF_no {n : NetD} (h : chkN n = false) : chkF n = 270 := by unfold chkF; rw [h]; rfl
theorem chkN_size {n : NetD} (h : sizeN n = false) : chkN n = false := by unfold chkN; rw [h, Bool.false_and]
theorem sizeN_no1 {n : NetD} (h : n.vs < 2) : chkN n = false := chkN_size (by unfold sizeN; rw [decide_eq_false (by omega), Bool.false_and])
theorem sizeN_no2 {n : NetD} (h : 512 < n.vs) : chkN n = false := chkN_size (by unfold sizeN; rw [decide_eq_false (p := n.vs ≤ 512) (by omega), Bool.false_and, Bool.and_false])
theorem sizeN_no3 {n : NetD} (h : 4096 < n.arcs.length) : chkN n = false := chkN_size (by unfold sizeN; rw [decide_eq_false (p := n.arcs.length ≤ 4096) (by omega), Bool.and_false, Bool.and_false])
theorem sizeN_yes {n : NetD} (h1 : ¬ n.vs < 2) (h2 : ¬ 512 < n.vs) (h3 : ¬ 4096 < n.arcs.length) : sizeN n = true := by
  unfold sizeN
  simp only [Bool.and_eq_true, decide_eq_true_eq]
  omega
/-- the first k arcs are good -/
def arcsTo (n : NetD) (k : Nat) : Prop := ∀ j, j < k → okA n.vs (nthA n.arcs j) = true
theorem arcsTo_zero {n : NetD} : arcsTo n 0 := fun _ h => absurd h (by omega)
theorem arcsTo_succ {n : NetD} {k : Nat} (h : arcsTo n k) (hk : okA n.vs (nthA n.arcs k) = true) : arcsTo n (k + 1) := fun j hj => by
  rcases Nat.lt_or_ge j k with h1 | h1
  · exact h j h1
  · rw [show j = k by omega]; exact hk
theorem chkN_all {n : NetD} (hs : sizeN n = true) (h : arcsTo n n.arcs.length) : chkN n = true := by
  unfold chkN
  rw [hs, Bool.true_and, List.all_eq_true]
  intro a ha
  obtain ⟨j, hj, rfl⟩ := List.mem_iff_getElem.1 ha
  have := h j hj
  rwa [nthA_get hj] at this
theorem chkN_bad {n : NetD} {k : Nat} (hk : k < n.arcs.length) (h : okA n.vs (nthA n.arcs k) = false) : chkN n = false := by
  unfold chkN
  rw [Bool.and_eq_false_iff]
  right
  rw [← Bool.not_eq_true, List.all_eq_true]
  intro ha
  have := ha _ (List.getElem_mem hk)
  rw [nthA_get hk] at h
  rw [h] at this
  cases this
/-- what a good network holds to -/
structure NOk (n : NetD) (V : Nat) : Prop where
  vs : n.vs = (V : Int)
  lo : 2 ≤ V
  hi : V ≤ 512
  len : n.arcs.length ≤ 4096
  arc : ∀ i, i < n.arcs.length → ∃ a b c : Nat, nthA n.arcs i = ⟨(a : Int), (b : Int), (c : Int)⟩ ∧ a + 1 < V ∧ 0 < b ∧ b < V ∧ a ≠ b ∧ c ≤ 1073741824
theorem nok_of {n : NetD} (h : chkN n = true) : ∃ V, NOk n V := by
  unfold chkN sizeN at h
  simp only [Bool.and_eq_true, decide_eq_true_eq, List.all_eq_true] at h
  obtain ⟨⟨h1, h2, h3⟩, h4⟩ := h
  refine ⟨n.vs.toNat, by omega, by omega, by omega, h3, fun i hi => ?_⟩
  have := h4 _ (List.getElem_mem hi)
  rw [okA_iff] at this
  rw [nthA_get hi]
  obtain ⟨k1, k2, k3, k4, k5, k6, k7⟩ := this
  refine ⟨n.arcs[i].src.toNat, n.arcs[i].dst.toNat, n.arcs[i].cap.toNat, ?_, by omega, by omega, by omega, by omega, by omega⟩
  rw [Int.toNat_of_nonneg k1, Int.toNat_of_nonneg (by omega), Int.toNat_of_nonneg k6]
end Go.Proofs.Ytikddknhcfhnbaa
/- Values of flows and capacities of sides. No program here. -/
namespace Go.Proofs.Ytikddknhcfhnbaa
/-- what leaves a vertex less what comes in, by the first k arcs -/
def netF (n : NetD) (f : List Int) (v : Int) : Nat → Int
  | 0 => 0
  | k + 1 => netF n f v k + (if (nthA n.arcs k).src = v then nthI f k else 0) - (if (nthA n.arcs k).dst = v then nthI f k else 0)
/-- an amount that its arc bears -/
def okF (n : NetD) (f : List Int) (k : Nat) : Bool := decide (0 ≤ nthI f k) && decide (nthI f k ≤ (nthA n.arcs k).cap)
/-- the balance of an inner vertex is 0 -/
def okB (n : NetD) (f : List Int) (v : Nat) : Bool := decide (netF n f (v : Int) n.arcs.length = 0)
def valB (n : NetD) (f : List Int) : Bool := chkN n && (decide (f.length = n.arcs.length) && ((List.range n.arcs.length).all (okF n f) && (List.range' 1 (n.vs.toNat - 2)).all (okB n f)))
/-- what Value answers -/
def valF (n : NetD) (f : List Int) : Int × Int := if valB n f then (netF n f 0 n.arcs.length, 0) else (0, 270)
theorem valF_yes {n : NetD} {f : List Int} (h : valB n f = true) : valF n f = (netF n f 0 n.arcs.length, 0) := by unfold valF; rw [if_pos h]
theorem valF_no {n : NetD} {f : List Int} (h : valB n f = false) : valF n f = (0, 270) := by unfold valF; rw [h]; rfl
theorem valB_no1 {n : NetD} {f : List Int} (h : chkN n = false) : valB n f = false := by unfold valB; rw [h, Bool.false_and]
theorem valB_no2 {n : NetD} {f : List Int} (h : ¬ f.length = n.arcs.length) : valB n f = false := by unfold valB; rw [decide_eq_false h, Bool.false_and, Bool.and_false]
theorem valB_no3 {n : NetD} {f : List Int} {k : Nat} (hk : k < n.arcs.length) (h : okF n f k = false) : valB n f = false := by
  unfold valB
  have : (List.range n.arcs.length).all (okF n f) = false := by
    rw [← Bool.not_eq_true, List.all_eq_true]
    intro ha
    rw [ha k (List.mem_range.2 hk)] at h
    cases h
  rw [this, Bool.false_and, Bool.and_false, Bool.and_false]
theorem valB_no4 {n : NetD} {f : List Int} {v : Nat} (h1 : 1 ≤ v) (h2 : (v : Int) < n.vs - 1) (h : okB n f v = false) : valB n f = false := by
  unfold valB
  have : (List.range' 1 (n.vs.toNat - 2)).all (okB n f) = false := by
    rw [← Bool.not_eq_true, List.all_eq_true]
    intro ha
    rw [ha v (by rw [List.mem_range'_1]; omega)] at h
    cases h
  rw [this, Bool.and_false, Bool.and_false, Bool.and_false]
theorem valB_yes {n : NetD} {f : List Int} (h1 : chkN n = true) (h2 : f.length = n.arcs.length) (h3 : ∀ k, k < n.arcs.length → okF n f k = true) (h4 : ∀ v : Nat, 1 ≤ v → (v : Int) < n.vs - 1 → okB n f v = true) : valB n f = true := by
  unfold valB
  rw [h1, decide_eq_true h2, Bool.true_and, Bool.true_and, Bool.and_eq_true, List.all_eq_true, List.all_eq_true]
  refine ⟨fun k hk => h3 k (List.mem_range.1 hk), fun v hv => ?_⟩
  rw [List.mem_range'_1] at hv
  exact h4 v hv.1 (by omega)
/-- balances stay small -/
theorem netF_le {n : NetD} {f : List Int} {v : Int} : ∀ {k : Nat}, (∀ j, j < k → 0 ≤ nthI f j ∧ nthI f j ≤ 1073741824) → -(1073741824 * (k : Int)) ≤ netF n f v k ∧ netF n f v k ≤ 1073741824 * (k : Int)
  | 0, _ => by simp [netF]
  | k + 1, h => by
    have ih := netF_le (n := n) (v := v) (k := k) fun j hj => h j (by omega)
    have := h k (by omega)
    unfold netF
    split <;> split <;> omega
/-- place i of a side -/
def okS (n : NetD) (s : List Int) (i : Nat) : Bool := decide (0 ≤ nthI s i) && (decide (nthI s i < n.vs - 1) && (decide (i = 0) || decide (nthI s (i - 1) < nthI s i)))
/-- a side -/
def sideB (n : NetD) (s : List Int) : Bool := (List.range s.length).all (okS n s) && s.contains 0
def capTo (n : NetD) (s : List Int) : Nat → Int
  | 0 => 0
  | k + 1 => capTo n s k + if s.contains (nthA n.arcs k).src && !s.contains (nthA n.arcs k).dst then (nthA n.arcs k).cap else 0
end Go.Proofs.Ytikddknhcfhnbaa
/- No flow is greater than a side's capacity. No program here. -/
namespace Go.Proofs.Ytikddknhcfhnbaa
def sumZ (g : Nat → Int) : Nat → Int
  | 0 => 0
  | n + 1 => sumZ g n + g n
theorem sumZ_congr {g h : Nat → Int} : ∀ {n : Nat}, (∀ v, v < n → g v = h v) → sumZ g n = sumZ h n
  | 0, _ => rfl
  | n + 1, he => by
    unfold sumZ
    rw [sumZ_congr (n := n) fun v hv => he v (by omega), he n (by omega)]
theorem sumZ_add (g h : Nat → Int) : ∀ n, sumZ (fun v => g v + h v) n = sumZ g n + sumZ h n
  | 0 => rfl
  | n + 1 => by
    unfold sumZ
    rw [sumZ_add g h n]; omega
theorem sumZ_sub (g h : Nat → Int) : ∀ n, sumZ (fun v => g v - h v) n = sumZ g n - sumZ h n
  | 0 => rfl
  | n + 1 => by
    unfold sumZ
    rw [sumZ_sub g h n]; omega
theorem sumZ_zero : ∀ n, sumZ (fun _ => 0) n = 0
  | 0 => rfl
  | n + 1 => by
    unfold sumZ
    rw [sumZ_zero n]; rfl
theorem sumZ_one {a : Nat} {x : Int} : ∀ {n : Nat}, a < n → sumZ (fun v => if v = a then x else 0) n = x
  | 0, h => absurd h (by omega)
  | n + 1, h => by
    unfold sumZ
    by_cases e : n = a
    · rw [if_pos e, sumZ_congr (h := fun _ => 0) (fun v hv => if_neg (by omega)), sumZ_zero]; omega
    · rw [if_neg e, sumZ_one (n := n) (by omega)]; omega
section
variable (n : NetD) (f : List Int) (S : Nat → Bool)
/-- what the first k arcs carry out of a side -/
def outF : Nat → Int
  | 0 => 0
  | k + 1 => outF k + if S (nthA n.arcs k).src.toNat && !S (nthA n.arcs k).dst.toNat then nthI f k else 0
/-- what the first k arcs carry into a side -/
def inF : Nat → Int
  | 0 => 0
  | k + 1 => inF k + if !S (nthA n.arcs k).src.toNat && S (nthA n.arcs k).dst.toNat then nthI f k else 0
/-- what the first k arcs could carry out of a side -/
def capS : Nat → Int
  | 0 => 0
  | k + 1 => capS k + if S (nthA n.arcs k).src.toNat && !S (nthA n.arcs k).dst.toNat then (nthA n.arcs k).cap else 0
end
section
variable {n : NetD} {f : List Int} {S : Nat → Bool} {V : Nat}
theorem cut_net (h : NOk n V) : ∀ {k : Nat}, k ≤ n.arcs.length → sumZ (fun v => if S v = true then netF n f (v : Int) k else 0) V = outF n f S k - inF n f S k
  | 0, _ => by
    unfold outF inF
    rw [sumZ_congr (h := fun _ => 0) (fun v _ => by unfold netF; split <;> rfl), sumZ_zero]; rfl
  | k + 1, hk => by
    have ih := cut_net h (k := k) (by omega)
    obtain ⟨a, b, c, e, ha, -, hb, -, -⟩ := h.arc k (by omega)
    have he : sumZ (fun v => if S v = true then netF n f (v : Int) (k + 1) else 0) V = sumZ (fun v => (if S v = true then netF n f (v : Int) k else 0) + ((if v = a then (if S a = true then nthI f k else 0) else 0) - (if v = b then (if S b = true then nthI f k else 0) else 0))) V := by
      refine sumZ_congr fun v _ => ?_
      show (if S v = true then netF n f (v : Int) k + (if (nthA n.arcs k).src = (v : Int) then nthI f k else 0) - (if (nthA n.arcs k).dst = (v : Int) then nthI f k else 0) else 0) = _
      rw [e]
      dsimp only
      have e1 : ((a : Int) = (v : Int)) = (v = a) := propext ⟨fun q => by omega, fun q => by omega⟩
      have e2 : ((b : Int) = (v : Int)) = (v = b) := propext ⟨fun q => by omega, fun q => by omega⟩
      simp only [e1, e2]
      by_cases q1 : v = a
      · by_cases q2 : v = b
        · subst q1; subst q2; split <;> simp <;> omega
        · subst q1; simp only [if_neg q2, if_true]; split <;> omega
      · by_cases q2 : v = b
        · subst q2; simp only [if_neg q1, if_true]; split <;> omega
        · simp only [if_neg q1, if_neg q2]; split <;> omega
    rw [he, sumZ_add, sumZ_sub, ih, sumZ_one (by omega), sumZ_one (by omega)]
    show _ = outF n f S k + (if (S (nthA n.arcs k).src.toNat && !S (nthA n.arcs k).dst.toNat) = true then nthI f k else 0) - (inF n f S k + if (!S (nthA n.arcs k).src.toNat && S (nthA n.arcs k).dst.toNat) = true then nthI f k else 0)
    rw [e]
    simp only [Int.toNat_natCast]
    clear he ih
    rcases Bool.eq_false_or_eq_true (S a) with q1 | q1 <;> rcases Bool.eq_false_or_eq_true (S b) with q2 | q2 <;> simp only [q1, q2, Bool.not_true, Bool.not_false, Bool.and_true, Bool.and_false, Bool.false_eq_true, if_true, if_false] <;> omega
/-- the value of a flow, read off at a side -/
theorem cut_val (h : NOk n V) (hb : ∀ v : Nat, 1 ≤ v → v + 1 < V → netF n f (v : Int) n.arcs.length = 0) (h0 : S 0 = true) (hs : S (V - 1) = false) : netF n f 0 n.arcs.length = outF n f S n.arcs.length - inF n f S n.arcs.length := by
  rw [← cut_net h (Nat.le_refl _), sumZ_congr (h := fun v => if v = 0 then netF n f 0 n.arcs.length else 0) (fun v hv => ?_), sumZ_one (by have := h.lo; omega)]
  by_cases e : v = 0
  · subst e; rw [if_pos h0, if_pos rfl]; rfl
  · rw [if_neg e]
    by_cases q : v + 1 < V
    · rw [hb v (by omega) q]; split <;> rfl
    · rw [if_neg (by rw [show v = V - 1 by omega, hs]; decide)]
theorem out_le : ∀ {k : Nat}, (∀ j, j < k → nthI f j ≤ (nthA n.arcs j).cap) → outF n f S k ≤ capS n S k
  | 0, _ => Int.le_refl _
  | k + 1, h => by
    have ih := out_le (k := k) fun j hj => h j (by omega)
    have := h k (by omega)
    unfold outF capS
    split <;> omega
theorem in_ge : ∀ {k : Nat}, (∀ j, j < k → 0 ≤ nthI f j) → 0 ≤ inF n f S k
  | 0, _ => Int.le_refl _
  | k + 1, h => by
    have ih := in_ge (k := k) fun j hj => h j (by omega)
    have := h k (by omega)
    unfold inF
    split <;> omega
theorem out_full : ∀ {k : Nat}, (∀ j, j < k → S (nthA n.arcs j).src.toNat = true → S (nthA n.arcs j).dst.toNat = false → nthI f j = (nthA n.arcs j).cap) → outF n f S k = capS n S k
  | 0, _ => rfl
  | k + 1, h => by
    have ih := out_full (k := k) fun j hj => h j (by omega)
    have := h k (by omega)
    unfold outF capS
    rw [ih]
    split
    · next e =>
      rw [Bool.and_eq_true, Bool.not_eq_true'] at e
      rw [this e.1 e.2]
    · rfl
theorem in_none : ∀ {k : Nat}, (∀ j, j < k → S (nthA n.arcs j).src.toNat = false → S (nthA n.arcs j).dst.toNat = true → nthI f j = 0) → inF n f S k = 0
  | 0, _ => rfl
  | k + 1, h => by
    have ih := in_none (k := k) fun j hj => h j (by omega)
    have := h k (by omega)
    unfold inF
    rw [ih]
    split
    · next e =>
      rw [Bool.and_eq_true, Bool.not_eq_true'] at e
      rw [this e.1 e.2]; rfl
    · rfl
/-- no flow is greater than a side's capacity -/
theorem weak (h : NOk n V) (hf : ∀ j, j < n.arcs.length → 0 ≤ nthI f j ∧ nthI f j ≤ (nthA n.arcs j).cap) (hb : ∀ v : Nat, 1 ≤ v → v + 1 < V → netF n f (v : Int) n.arcs.length = 0) (h0 : S 0 = true) (hs : S (V - 1) = false) : netF n f 0 n.arcs.length ≤ capS n S n.arcs.length := by
  rw [cut_val h hb h0 hs]
  have h1 := out_le (n := n) (S := S) fun j hj => (hf j hj).2
  have h2 := in_ge (n := n) (S := S) (k := n.arcs.length) fun j hj => (hf j hj).1
  omega
/-- a side that the flow fills -/
theorem tight (h : NOk n V) (hb : ∀ v : Nat, 1 ≤ v → v + 1 < V → netF n f (v : Int) n.arcs.length = 0) (h0 : S 0 = true) (hs : S (V - 1) = false)
    (ho : ∀ j, j < n.arcs.length → S (nthA n.arcs j).src.toNat = true → S (nthA n.arcs j).dst.toNat = false → nthI f j = (nthA n.arcs j).cap)
    (hi : ∀ j, j < n.arcs.length → S (nthA n.arcs j).src.toNat = false → S (nthA n.arcs j).dst.toNat = true → nthI f j = 0) : netF n f 0 n.arcs.length = capS n S n.arcs.length := by
  rw [cut_val h hb h0 hs, out_full ho, in_none hi]; omega
end
end Go.Proofs.Ytikddknhcfhnbaa
/- Sides as lists. No program here. -/
namespace Go.Proofs.Ytikddknhcfhnbaa
/-- what Capacity answers -/
def capF (n : NetD) (s : List Int) : Int × Int := if chkN n then (if sideB n s then (capTo n s n.arcs.length, 0) else (0, 1)) else (0, 270)
/-- a list as a set of vertices -/
def setS (s : List Int) (v : Nat) : Bool := s.contains (v : Int)
theorem capTo_S {n : NetD} {V : Nat} (h : NOk n V) (s : List Int) : ∀ {k : Nat}, k ≤ n.arcs.length → capTo n s k = capS n (setS s) k
  | 0, _ => rfl
  | k + 1, hk => by
    have ih := capTo_S h s (k := k) (by omega)
    obtain ⟨a, b, c, e, -⟩ := h.arc k (by omega)
    unfold capTo capS
    rw [ih, e]
    dsimp only
    rw [Int.toNat_natCast, Int.toNat_natCast]
    rfl
theorem sideB_at {n : NetD} {s : List Int} (h : sideB n s = true) {i : Nat} (hi : i < s.length) : 0 ≤ nthI s i ∧ nthI s i < n.vs - 1 ∧ (i = 0 ∨ nthI s (i - 1) < nthI s i) := by
  unfold sideB at h
  rw [Bool.and_eq_true, List.all_eq_true] at h
  have := h.1 i (List.mem_range.2 hi)
  unfold okS at this
  simpa only [Bool.and_eq_true, Bool.or_eq_true, decide_eq_true_eq] using this
theorem side_S {n : NetD} {V : Nat} (hn : NOk n V) {s : List Int} (h : sideB n s = true) : setS s 0 = true ∧ setS s (V - 1) = false := by
  refine ⟨?_, ?_⟩
  · unfold sideB at h
    rw [Bool.and_eq_true] at h
    exact h.2
  · rw [← Bool.not_eq_true]
    unfold setS
    rw [List.contains_iff_mem]
    intro hm
    obtain ⟨i, hi, e⟩ := List.mem_iff_getElem.1 hm
    have := sideB_at h hi
    rw [nthI_get hi, e, hn.vs] at this
    have := hn.lo
    omega
theorem valB_parts {n : NetD} {f : List Int} (h : valB n f = true) : chkN n = true ∧ f.length = n.arcs.length ∧ (∀ k, k < n.arcs.length → 0 ≤ nthI f k ∧ nthI f k ≤ (nthA n.arcs k).cap) ∧ ∀ v : Nat, 1 ≤ v → (v : Int) < n.vs - 1 → netF n f (v : Int) n.arcs.length = 0 := by
  unfold valB at h
  rw [Bool.and_eq_true, Bool.and_eq_true, Bool.and_eq_true, decide_eq_true_eq, List.all_eq_true, List.all_eq_true] at h
  obtain ⟨h1, h2, h3, h4⟩ := h
  refine ⟨h1, h2, fun k hk => ?_, fun v hv hw => ?_⟩
  · have := h3 k (List.mem_range.2 hk)
    unfold okF at this
    simpa only [Bool.and_eq_true, decide_eq_true_eq] using this
  · have := h4 v (by rw [List.mem_range'_1]; omega)
    unfold okB at this
    simpa only [decide_eq_true_eq] using this
/-- no flow is greater than the capacity of any side -/
theorem val_le_cap {n : NetD} {f s : List Int} (hf : valB n f = true) (hs : sideB n s = true) : (valF n f).1 ≤ (capF n s).1 := by
  obtain ⟨h1, h2, h3, h4⟩ := valB_parts hf
  obtain ⟨V, hV⟩ := nok_of h1
  obtain ⟨s0, s1⟩ := side_S hV hs
  rw [valF_yes hf]
  unfold capF
  rw [if_pos h1, if_pos hs]
  dsimp only
  rw [capTo_S hV s (Nat.le_refl _)]
  exact weak hV h3 (fun v hv hw => h4 v hv (by rw [hV.vs]; omega)) s0 s1
end Go.Proofs.Ytikddknhcfhnbaa
/- The reference's test of a side is the package's. No program here. -/
namespace Go.Proofs.Ytikddknhcfhnbaa
/-- the first k places rise -/
def riseTo (s : List Int) (k : Nat) : Prop := ∀ i, 1 ≤ i → i < k → nthI s (i - 1) < nthI s i
theorem rise_succ {s : List Int} {k : Nat} (h : riseTo s k) (hk : nthI s (k - 1) < nthI s k) : riseTo s (k + 1) := fun i h1 h2 => by
  rcases Nat.lt_or_ge i k with q | q
  · exact h i h1 q
  · rw [show i = k by omega]; exact hk
theorem rise_ge {s : List Int} {k : Nat} (h : riseTo s k) (h0 : 0 ≤ nthI s 0) : ∀ {i : Nat}, i < k → (i : Int) ≤ nthI s i
  | 0, _ => h0
  | i + 1, hi => by
    have ih := rise_ge h h0 (i := i) (by omega)
    have := h (i + 1) (by omega) hi
    rw [Nat.add_sub_cancel] at this
    omega
theorem rise_top {s : List Int} {k : Nat} (h : riseTo s k) : ∀ {j i : Nat}, i + j < k → nthI s i ≤ nthI s (i + j)
  | 0, _, _ => Int.le_refl _
  | j + 1, i, hi => by
    have ih := rise_top h (j := j) (i := i) (by omega)
    have := h (i + (j + 1)) (by omega) hi
    rw [show i + (j + 1) - 1 = i + j by omega] at this
    omega
theorem sideB_rise {n : NetD} {s : List Int} (h : sideB n s = true) : riseTo s s.length ∧ 0 < s.length ∧ nthI s 0 = 0 ∧ nthI s (s.length - 1) < n.vs - 1 ∧ (s.length : Int) < n.vs := by
  have hr : riseTo s s.length := fun i h1 h2 => by
    have := (sideB_at h h2).2.2
    omega
  have hm : setS s 0 = true := by
    unfold sideB at h
    rw [Bool.and_eq_true] at h
    exact h.2
  unfold setS at hm
  rw [List.contains_iff_mem] at hm
  obtain ⟨i, hi, e⟩ := List.mem_iff_getElem.1 hm
  have hp : 0 < s.length := by omega
  have h0 := (sideB_at h hp).1
  have hg := rise_ge hr h0 hi
  rw [nthI_get hi, e] at hg
  obtain rfl : i = 0 := by
    have : (i : Int) ≤ 0 := hg
    omega
  have hl := (sideB_at h (show s.length - 1 < s.length by omega)).2.1
  have hg2 := rise_ge hr h0 (show s.length - 1 < s.length by omega)
  refine ⟨hr, hp, by rw [nthI_get hi, e]; rfl, hl, by omega⟩
theorem sideB_of {n : NetD} {s : List Int} (hr : riseTo s s.length) (hp : 0 < s.length) (h0 : nthI s 0 = 0) (hl : nthI s (s.length - 1) < n.vs - 1) : sideB n s = true := by
  unfold sideB
  rw [Bool.and_eq_true, List.all_eq_true]
  refine ⟨fun i hi => ?_, ?_⟩
  · rw [List.mem_range] at hi
    have h1 := rise_ge hr (by omega) hi
    have h2 := rise_top hr (i := i) (j := s.length - 1 - i) (by omega)
    rw [show i + (s.length - 1 - i) = s.length - 1 by omega] at h2
    unfold okS
    simp only [Bool.and_eq_true, Bool.or_eq_true, decide_eq_true_eq]
    refine ⟨by omega, by omega, ?_⟩
    rcases Nat.eq_zero_or_pos i with q | q
    · exact .inl q
    · exact .inr (hr i q hi)
  · rw [List.contains_iff_mem]
    exact List.mem_iff_getElem.2 ⟨0, hp, by rw [← nthI_get hp]; exact h0⟩
end Go.Proofs.Ytikddknhcfhnbaa
/- A side with no room out of it is as great as the flow. No program here. -/
namespace Go.Proofs.Ytikddknhcfhnbaa
/-- what is left of the arcs: forth and back -/
structure Res (n : NetD) (fo bk : Nat → Int) : Prop where
  sum : ∀ i, i < n.arcs.length → fo i + bk i = (nthA n.arcs i).cap
  fo0 : ∀ i, i < n.arcs.length → 0 ≤ fo i
  bk0 : ∀ i, i < n.arcs.length → 0 ≤ bk i
theorem closed_tight {n : NetD} {V : Nat} (h : NOk n V) {fo bk : Nat → Int} (hr : Res n fo bk) {f : List Int} (hf : ∀ i, i < n.arcs.length → nthI f i = bk i)
    (hb : ∀ v : Nat, 1 ≤ v → v + 1 < V → netF n f (v : Int) n.arcs.length = 0) {S : Nat → Bool} (h0 : S 0 = true) (hs : S (V - 1) = false)
    (c1 : ∀ i, i < n.arcs.length → S (nthA n.arcs i).src.toNat = true → S (nthA n.arcs i).dst.toNat = false → ¬ 0 < fo i)
    (c2 : ∀ i, i < n.arcs.length → S (nthA n.arcs i).src.toNat = false → S (nthA n.arcs i).dst.toNat = true → ¬ 0 < bk i) : netF n f 0 n.arcs.length = capS n S n.arcs.length := by
  refine tight h hb h0 hs (fun j hj a b => ?_) (fun j hj a b => ?_)
  · have := c1 j hj a b
    have := hr.sum j hj
    have := hr.fo0 j hj
    rw [hf j hj]; omega
  · have := c2 j hj a b
    have := hr.bk0 j hj
    rw [hf j hj]; omega
end Go.Proofs.Ytikddknhcfhnbaa
/- Pushing an amount along an arc or its reverse. No program here. -/
namespace Go.Proofs.Ytikddknhcfhnbaa
def updI (f : Nat → Int) (i : Nat) (x : Int) (j : Nat) : Int := if j = i then x else f j
theorem updI_same (f : Nat → Int) (i : Nat) (x : Int) : updI f i x i = x := if_pos rfl
theorem updI_other {f : Nat → Int} {i j : Nat} {x : Int} (h : j ≠ i) : updI f i x j = f j := if_neg h
theorem Res.forth {n : NetD} {fo bk : Nat → Int} (h : Res n fo bk) {i : Nat} {x : Int} (h0 : 0 ≤ x) (h1 : x ≤ fo i) : Res n (updI fo i (fo i - x)) (updI bk i (bk i + x)) := by
  refine ⟨fun j hj => ?_, fun j hj => ?_, fun j hj => ?_⟩
  all_goals
    have a := h.sum j hj
    have b := h.fo0 j hj
    have c := h.bk0 j hj
    by_cases e : j = i
    · subst e
      simp only [updI_same]
      omega
    · simp only [updI_other e]
      omega
theorem Res.back {n : NetD} {fo bk : Nat → Int} (h : Res n fo bk) {i : Nat} {x : Int} (h0 : 0 ≤ x) (h1 : x ≤ bk i) : Res n (updI fo i (fo i + x)) (updI bk i (bk i - x)) := by
  refine ⟨fun j hj => ?_, fun j hj => ?_, fun j hj => ?_⟩
  all_goals
    have a := h.sum j hj
    have b := h.fo0 j hj
    have c := h.bk0 j hj
    by_cases e : j = i
    · subst e
      simp only [updI_same]
      omega
    · simp only [updI_other e]
      omega
end Go.Proofs.Ytikddknhcfhnbaa
/- Balances when an amount is pushed. No program here. -/
namespace Go.Proofs.Ytikddknhcfhnbaa
/-- what leaves a vertex less what comes in, by the first k arcs -/
def netB (n : NetD) (g : Nat → Int) (v : Int) : Nat → Int
  | 0 => 0
  | k + 1 => netB n g v k + (if (nthA n.arcs k).src = v then g k else 0) - (if (nthA n.arcs k).dst = v then g k else 0)
theorem netF_B (n : NetD) (f : List Int) (v : Int) : ∀ k, netF n f v k = netB n (nthI f) v k
  | 0 => rfl
  | k + 1 => by unfold netF netB; rw [netF_B n f v k]
theorem netB_congr {n : NetD} {g h : Nat → Int} {v : Int} : ∀ {k : Nat}, (∀ j, j < k → g j = h j) → netB n g v k = netB n h v k
  | 0, _ => rfl
  | k + 1, e => by unfold netB; rw [netB_congr (k := k) fun j hj => e j (by omega), e k (by omega)]
theorem netB_upd {n : NetD} {g : Nat → Int} {v : Int} {i : Nat} {x : Int} : ∀ {k : Nat}, i < k → netB n (updI g i (g i + x)) v k = netB n g v k + (if (nthA n.arcs i).src = v then x else 0) - (if (nthA n.arcs i).dst = v then x else 0)
  | 0, h => absurd h (by omega)
  | k + 1, h => by
    by_cases e : k = i
    · subst e
      unfold netB
      rw [netB_congr (h := g) fun j hj => updI_other (by omega), updI_same]
      split <;> split <;> omega
    · unfold netB
      rw [netB_upd (k := k) (by omega), updI_other e]
      omega
end Go.Proofs.Ytikddknhcfhnbaa
/- Levels: dead vertices and the chain to the sink. No program here. -/
namespace Go.Proofs.Ytikddknhcfhnbaa
/-- a chain of steps from u to t, each one level deeper -/
inductive Chain (E : Nat → Nat → Prop) (lv : Nat → Int) : Nat → Nat → Prop
  | nil (u : Nat) : Chain E lv u u
  | cons {u v t : Nat} (h : E u v) (hl : lv v = lv u + 1) (r : Chain E lv v t) : Chain E lv u t
/-- a set that holds the chain's first and is closed under its steps holds its last -/
theorem Chain.closed {E : Nat → Nat → Prop} {lv : Nat → Int} {D : Nat → Prop} (hD : ∀ u v, D u → E u v → lv v = lv u + 1 → D v) : ∀ {u t : Nat}, Chain E lv u t → D u → D t
  | _, _, .nil _, h => h
  | _, _, .cons h hl r, hu => Chain.closed hD r (hD _ _ hu h hl)
theorem Chain.snoc {E : Nat → Nat → Prop} {lv : Nat → Int} {u v t : Nat} (c : Chain E lv u v) (h : E v t) (hl : lv t = lv v + 1) : Chain E lv u t := by
  induction c with
  | nil u => exact .cons h hl (.nil _)
  | cons h' hl' _ ih => exact .cons h' hl' (ih h hl)
theorem Chain.mono {E E' : Nat → Nat → Prop} {lv : Nat → Int} {u t : Nat} (c : Chain E lv u t) (h : ∀ a b, E a b → E' a b) : Chain E' lv u t := by
  induction c with
  | nil u => exact .nil u
  | cons h' hl' _ ih => exact .cons (h _ _ h') hl' ih
end Go.Proofs.Ytikddknhcfhnbaa
/- Levels: breadth first. No program here. -/
namespace Go.Proofs.Ytikddknhcfhnbaa
theorem Chain.congr {E : Nat → Nat → Prop} {lv lv' : Nat → Int} {u t : Nat} (c : Chain E lv u t) (h0 : 0 ≤ lv u) (h : ∀ x, 0 ≤ lv x → lv' x = lv x) : Chain E lv' u t := by
  induction c with
  | nil u => exact .nil u
  | @cons u v t e hl _ ih => exact .cons e (by rw [h v (by omega), h u h0, hl]) (ih (by omega))
/-- how many of the first k are not reached -/
def cntN (lv : Nat → Int) : Nat → Nat
  | 0 => 0
  | k + 1 => cntN lv k + if lv k < 0 then 1 else 0
theorem cntN_le (lv : Nat → Int) : ∀ k, cntN lv k ≤ k
  | 0 => Nat.le_refl _
  | k + 1 => by
    have := cntN_le lv k
    unfold cntN
    split <;> omega
theorem cntN_congr {lv lv' : Nat → Int} : ∀ {k : Nat}, (∀ j, j < k → lv' j = lv j) → cntN lv' k = cntN lv k
  | 0, _ => rfl
  | k + 1, h => by
    unfold cntN
    rw [cntN_congr (k := k) fun j hj => h j (by omega), h k (by omega)]
theorem cntN_upd {lv : Nat → Int} {t : Nat} {x : Int} (h : lv t < 0) (hx : 0 ≤ x) : ∀ {k : Nat}, t < k → cntN (updI lv t x) k + 1 = cntN lv k
  | 0, ht => absurd ht (by omega)
  | k + 1, ht => by
    unfold cntN
    by_cases e : k = t
    · subst e
      rw [cntN_congr (lv' := updI lv k x) (lv := lv) fun j hj => updI_other (by omega), updI_same, if_pos h, if_neg (by omega)]
    · have := cntN_upd h hx (k := k) (by omega)
      rw [updI_other e]
      omega
theorem cntN_neg : ∀ k, cntN (fun _ => -1) k = k
  | 0 => rfl
  | k + 1 => by unfold cntN; rw [cntN_neg k]; rfl
/-- breadth first on its way; cur is being looked at -/
structure BfsC (E : Nat → Nat → Prop) (V : Nat) (lv : Nat → Int) (q : List Int) (cur : Nat) : Prop where
  zero : lv 0 = 0
  rng : ∀ v, v < V → -1 ≤ lv v ∧ lv v + (cntN lv V : Int) < (V : Int)
  chn : ∀ v, v < V → 0 ≤ lv v → Chain E lv 0 v
  inq : ∀ x ∈ q, ∃ u : Nat, u < V ∧ x = (u : Int) ∧ 0 ≤ lv u
  fin : ∀ u, u < V → 0 ≤ lv u → (u : Int) ∈ q ∨ u = cur ∨ ∀ v, E u v → 0 ≤ lv v
/-- what levels gives -/
structure LevP (E : Nat → Nat → Prop) (V : Nat) (lv : Nat → Int) : Prop where
  zero : lv 0 = 0
  rng : ∀ v, v < V → -1 ≤ lv v ∧ lv v < (V : Int)
  chn : ∀ v, v < V → 0 ≤ lv v → Chain E lv 0 v
  cls : lv (V - 1) < 0 → ∀ u, u < V → 0 ≤ lv u → ∀ v, E u v → 0 ≤ lv v
section
variable {E : Nat → Nat → Prop} {V : Nat} {lv : Nat → Int} {q : List Int} {cur : Nat}
theorem BfsC.start (hV : 2 ≤ V) : BfsC E V (updI (fun _ => -1) 0 0) [0] V := by
  have hc : cntN (updI (fun _ => -1) 0 0) V + 1 = V := by
    have := cntN_upd (lv := fun _ => -1) (t := 0) (x := 0) (by omega) (Int.le_refl _) (k := V) (by omega)
    rw [cntN_neg] at this
    exact this
  have h0 : ∀ v, 0 ≤ updI (fun _ => -1) 0 0 v → v = 0 := fun v h => by
    rcases Nat.eq_zero_or_pos v with e | e
    · exact e
    · rw [updI_other (by omega)] at h; omega
  refine ⟨updI_same _ _ _, fun v hv => ?_, fun v _ h => ?_, fun x hx => ?_, fun u _ h => .inl ?_⟩
  · rcases Nat.eq_zero_or_pos v with e | e
    · subst e; rw [updI_same]; omega
    · rw [updI_other (by omega)]; omega
  · rw [h0 v h]; exact .nil 0
  · rw [List.mem_singleton] at hx
    exact ⟨0, by omega, hx, by rw [updI_same]; omega⟩
  · rw [h0 u h]; exact List.mem_singleton.2 rfl
theorem BfsC.pop {u : Nat} (h : BfsC E V lv ((u : Int) :: q) V) : BfsC E V lv q u := by
  refine ⟨h.zero, h.rng, h.chn, fun x hx => h.inq x (List.mem_cons_of_mem _ hx), fun v hv h0 => ?_⟩
  rcases h.fin v hv h0 with a | a | a
  · rcases List.mem_cons.1 a with b | b
    · exact .inr (.inl (by omega))
    · exact .inl b
  · omega
  · exact .inr (.inr a)
theorem BfsC.done {cur : Nat} (h : BfsC E V lv q cur) (hd : ∀ v, E cur v → 0 ≤ lv v) : BfsC E V lv q V := by
  refine ⟨h.zero, h.rng, h.chn, h.inq, fun v hv h0 => ?_⟩
  rcases h.fin v hv h0 with a | a | a
  · exact .inl a
  · subst a; exact .inr (.inr hd)
  · exact .inr (.inr a)
theorem BfsC.take {t : Nat} (h : BfsC E V lv q cur) (hc : cur < V) (h0 : 0 ≤ lv cur) (ht : t < V) (hl : lv t < 0) (he : E cur t) : BfsC E V (updI lv t (lv cur + 1)) (q ++ [(t : Int)]) cur ∧ cntN (updI lv t (lv cur + 1)) V + 1 = cntN lv V := by
  have hk := cntN_upd hl (x := lv cur + 1) (by omega) ht
  have hne : cur ≠ t := fun e => by subst e; omega
  have ho : ∀ x, 0 ≤ lv x → updI lv t (lv cur + 1) x = lv x := fun x hx => updI_other fun e => by subst e; omega
  have hge : ∀ x, 0 ≤ lv x → 0 ≤ updI lv t (lv cur + 1) x := fun x hx => by rw [ho x hx]; exact hx
  refine ⟨⟨by rw [ho 0 (by rw [h.zero]; omega)]; exact h.zero, fun v hv => ?_, fun v hv hv0 => ?_, fun x hx => ?_, fun u hu hu0 => ?_⟩, hk⟩
  · have a := h.rng v hv
    have b := h.rng cur hc
    by_cases e : v = t
    · subst e; rw [updI_same]; omega
    · rw [updI_other e]; omega
  · by_cases e : v = t
    · subst e
      refine ((h.chn cur hc h0).congr (by rw [h.zero]; omega) ho).snoc he ?_
      rw [updI_same, ho cur h0]
    · rw [updI_other e] at hv0
      exact (h.chn v hv hv0).congr (by rw [h.zero]; omega) ho
  · rcases List.mem_append.1 hx with a | a
    · obtain ⟨u, b, c, d⟩ := h.inq x a
      exact ⟨u, b, c, hge u d⟩
    · rw [List.mem_singleton] at a
      exact ⟨t, ht, a, by rw [updI_same]; omega⟩
  · by_cases e : u = t
    · subst e; exact .inl (List.mem_append_right _ (List.mem_singleton.2 rfl))
    · rw [updI_other e] at hu0
      rcases h.fin u hu hu0 with a | a | a
      · exact .inl (List.mem_append_left _ a)
      · exact .inr (.inl a)
      · exact .inr (.inr fun v hv => hge v (a v hv))
theorem BfsC.lev (h : BfsC E V lv q cur) (hc : (0 ≤ lv (V - 1)) ∨ (q = [] ∧ cur = V)) : LevP E V lv := by
  refine ⟨h.zero, fun v hv => ?_, h.chn, fun hs u hu h0 => ?_⟩
  · have := h.rng v hv; omega
  · rcases hc with a | ⟨a, b⟩
    · omega
    · rcases h.fin u hu h0 with c | c | c
      · rw [a] at c; cases c
      · omega
      · exact c
end
end Go.Proofs.Ytikddknhcfhnbaa
