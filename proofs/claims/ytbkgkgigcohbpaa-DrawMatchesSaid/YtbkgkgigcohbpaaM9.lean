/- Outcomes and matchings. No program here. -/
import Derived.Test.YtbkgkgigcohbpaaN1
import Derived.Test.YtbkgkgigcohbpaaZ2
import Derived.Test.YtbkgkgigcohbpaaZ1
namespace Go.Proofs.Ytbkgkgigcohbpaa
section
variable {may : Nat → Nat → Bool} {n : Nat}
theorem okL_parts : ∀ {x : List Nat} {i s : Nat}, okL may n i s x = true → (∀ j (h : j < x.length), x[j] < n ∧ s.testBit x[j] = false ∧ may (i + j) x[j] = true) ∧ x.Nodup
  | [], _, _, _ => ⟨fun j h => absurd h (by simp), List.nodup_nil⟩
  | k :: x, i, s, h => by
    rw [okL, Bool.and_eq_true, Bool.and_eq_true, Bool.and_eq_true, decide_eq_true_eq, Bool.not_eq_true'] at h
    obtain ⟨⟨h1, h2, h3⟩, h4⟩ := h
    obtain ⟨p1, p2⟩ := okL_parts h4
    refine ⟨fun j hj => ?_, List.nodup_cons.2 ⟨fun hk => ?_, p2⟩⟩
    · match j, hj with
      | 0, _ => exact ⟨h1, h2, h3⟩
      | j + 1, hj =>
        obtain ⟨a, b, c⟩ := p1 j (by simpa using hj)
        rw [wth_bit, Bool.or_eq_false_iff] at b
        refine ⟨a, b.1, ?_⟩
        have e : i + (j + 1) = i + 1 + j := by omega
        rw [e]; exact c
    · obtain ⟨j, hj, e⟩ := List.mem_iff_getElem.1 hk
      have := (p1 j hj).2.1
      rw [wth_bit, e] at this
      simp at this
theorem okL_of : ∀ {x : List Nat} {i s : Nat}, (∀ j (h : j < x.length), x[j] < n ∧ s.testBit x[j] = false ∧ may (i + j) x[j] = true) → x.Nodup → okL may n i s x = true
  | [], _, _, _, _ => rfl
  | k :: x, i, s, h, hd => by
    rw [okL, Bool.and_eq_true, Bool.and_eq_true, Bool.and_eq_true, decide_eq_true_eq, Bool.not_eq_true']
    obtain ⟨a, b, c⟩ := h 0 (by simp)
    rw [List.nodup_cons] at hd
    refine ⟨⟨a, b, c⟩, okL_of (fun j hj => ?_) hd.2⟩
    obtain ⟨a', b', c'⟩ := h (j + 1) (by simpa using hj)
    have e : i + (j + 1) = i + 1 + j := by omega
    rw [e] at c'
    refine ⟨a', ?_, c'⟩
    rw [wth_bit, show s.testBit x[j] = false from b', Bool.false_or, decide_eq_false_iff_not]
    intro e2
    exact hd.1 (List.mem_iff_getElem.2 ⟨j, hj, e2.symm⟩)
end
theorem full_size (m : Nat → Option Nat) : ∀ n, (∀ v, v < n → (m v).isSome = true) → sizeM m n = n
  | 0, _ => rfl
  | n + 1, h => by
    unfold sizeM
    rw [Sm.sumB]
    have := full_size m n fun v hv => h v (by omega)
    unfold sizeM at this
    rw [this, if_pos (h n (by omega))]
theorem size_le25 (m : Nat → Option Nat) (L : Nat) : sizeM m L ≤ L := by
  induction L with
  | zero => exact Nat.le_refl _
  | succ L ih => unfold sizeM at ih ⊢; rw [Sm.sumB]; split <;> omega
/-- an outcome exactly if there is a matching of all clubs -/
theorem outs_mat {d : DrawD} {E : Nat → Nat → Bool} {n : Nat} (hn : n = nD d) (hE : ∀ v r, v < n → r < n → (E v r = true ↔ mayD d v r = true)) {lf rf : Nat → Int} (h : FInv E n n lf rf n) : 0 < Rn (mayD d) (nD d) 0 ↔ sizeM (opt lf) n = n := by
  rw [← outsD_len]
  constructor
  · intro h0
    obtain ⟨x, hx⟩ := List.exists_mem_of_length_pos h0
    obtain ⟨hl, hok⟩ := outsD_ok hx
    obtain ⟨p1, p2⟩ := okL_parts hok
    rw [← hn] at hl p1
    have hm : Mat E n n (fun v => x[v]?) := by
      refine ⟨fun v r hv e => ?_, fun u v r hu hv e1 e2 => ?_⟩
      · obtain ⟨hvl, e⟩ := List.getElem?_eq_some_iff.1 e
        obtain ⟨a, -, c⟩ := p1 v hvl
        rw [Nat.zero_add] at c
        rw [e] at a c
        exact ⟨(hE v r hv a).2 c, a⟩
      · obtain ⟨hul, e1⟩ := List.getElem?_eq_some_iff.1 e1
        obtain ⟨hvl, e2⟩ := List.getElem?_eq_some_iff.1 e2
        have p3 := List.pairwise_iff_getElem.1 p2
        rcases Nat.lt_trichotomy u v with q | q | q
        · exact absurd (e1.trans e2.symm) (p3 u v hul hvl q)
        · exact q
        · exact absurd (e2.trans e1.symm) (p3 v u hvl hul q)
    have h1 := finv_best h hm
    rw [full_size _ n fun v hv => by rw [List.getElem?_eq_getElem (by omega)]; rfl] at h1
    have := size_le25 (opt lf) n
    omega
  · intro hs
    have hall : ∀ v, v < n → (opt lf v).isSome = true := fun v hv => by
      have := Sm.sumB_full (f := fun v => if (opt lf v).isSome = true then 1 else 0) (n := n) (fun c _ => by split <;> omega) hs v hv
      by_cases e : (opt lf v).isSome = true
      · exact e
      · rw [if_neg e] at this; cases this
    have hr : ∀ v, v < n → ∃ r : Nat, lf v = (r : Int) ∧ r < n ∧ rf r = (v : Int) ∧ E v r = true := fun v hv => h.inv.lr v hv (by
      have := hall v hv
      rcases Int.lt_or_le (lf v) 0 with h1 | h1
      · rw [opt_none.2 h1] at this; cases this
      · exact h1)
    have hx : (List.range n).map (fun v => (lf v).toNat) ∈ outsD d := by
      unfold outsD On
      rw [mem_outs, pcn_zero, ← hn]
      refine ⟨by simp, okL_of (fun j hj => ?_) ?_⟩
      · have hj : j < n := by simpa using hj
        obtain ⟨r, k1, k2, k3, k4⟩ := hr j hj
        have e : ((List.range n).map (fun v => (lf v).toNat))[j]'(by simpa using hj) = r := by simp [k1]
        rw [e]
        exact ⟨k2, Nat.zero_testBit r, by rw [Nat.zero_add]; exact (hE j r hj k2).1 k4⟩
      · unfold List.Nodup
        rw [List.pairwise_map]
        refine List.Pairwise.imp_of_mem (fun {a b} ha hb hab e => ?_) List.pairwise_lt_range
        rw [List.mem_range] at ha hb
        obtain ⟨r, k1, k2, k3, -⟩ := hr a ha
        obtain ⟨q, j1, j2, j3, -⟩ := hr b hb
        have : r = q := by omega
        subst this
        omega
    exact List.length_pos_of_mem hx
/-- the permitted pairs of row i -/
def rowP (d : DrawD) (n i : Nat) : List (Int × Int) := ((List.range n).filter (mayD d i)).map fun k : Nat => ((i : Int), (k : Int))
def rowTo (d : DrawD) (i k : Nat) : List (Int × Int) := ((List.range k).filter (mayD d i)).map fun k : Nat => ((i : Int), (k : Int))
def pairsTo (d : DrawD) (n v : Nat) : List (Int × Int) := (List.range v).flatMap (rowP d n)
theorem pairsTo_succ (d : DrawD) (n v : Nat) : pairsTo d n (v + 1) = pairsTo d n v ++ rowP d n v := by
  unfold pairsTo
  rw [List.range_succ, List.flatMap_append]; simp
theorem rowTo_yes {d : DrawD} {i k : Nat} (h : mayD d i k = true) : rowTo d i (k + 1) = rowTo d i k ++ [((i : Int), (k : Int))] := by
  unfold rowTo
  rw [List.range_succ, List.filter_append, List.map_append]
  simp [h]
theorem rowTo_no {d : DrawD} {i k : Nat} (h : mayD d i k = false) : rowTo d i (k + 1) = rowTo d i k := by
  unfold rowTo
  rw [List.range_succ, List.filter_append, List.map_append]
  simp [h]
theorem rowTo_len (d : DrawD) (i k : Nat) : (rowTo d i k).length ≤ k := by
  unfold rowTo
  rw [List.length_map]
  have := List.length_filter_le (mayD d i) (List.range k)
  simpa using this
theorem pairs_len (d : DrawD) (n : Nat) : ∀ v, (pairsTo d n v).length ≤ v * n
  | 0 => by simp [pairsTo]
  | v + 1 => by
    rw [pairsTo_succ, List.length_append, Nat.add_mul]
    have := pairs_len d n v
    have : (rowP d n v).length ≤ n := rowTo_len d v n
    omega
theorem pairs_mem {d : DrawD} {n v : Nat} {e : Int × Int} : e ∈ pairsTo d n v ↔ ∃ i k : Nat, i < v ∧ k < n ∧ mayD d i k = true ∧ e = ((i : Int), (k : Int)) := by
  unfold pairsTo rowP
  rw [List.mem_flatMap]
  constructor
  · rintro ⟨i, hi, he⟩
    rw [List.mem_map] at he
    obtain ⟨k, hk, rfl⟩ := he
    rw [List.mem_filter, List.mem_range] at hk
    exact ⟨i, k, List.mem_range.1 hi, hk.1, hk.2, rfl⟩
  · rintro ⟨i, k, hi, hk, hm, rfl⟩
    exact ⟨i, List.mem_range.2 hi, List.mem_map.2 ⟨k, List.mem_filter.2 ⟨List.mem_range.2 hk, hm⟩, rfl⟩⟩
theorem srt_pw26 {l : List (Int × Int)} : SrtE l ↔ l.Pairwise ltE := by
  rw [List.pairwise_iff_getElem]
  constructor
  · intro h i j hi hj hij
    have := h i j hij hj
    rwa [nthE_get hi, nthE_get hj] at this
  · intro h i j hij hj
    rw [nthE_get (by omega), nthE_get hj]
    exact h i j (by omega) hj hij
theorem pairs_srt (d : DrawD) (n v : Nat) : SrtE (pairsTo d n v) := by
  rw [srt_pw26]
  induction v with
  | zero => exact List.Pairwise.nil
  | succ v ih =>
    rw [pairsTo_succ, List.pairwise_append]
    refine ⟨ih, ?_, fun a ha b hb => ?_⟩
    · unfold rowP
      rw [List.pairwise_map]
      refine List.Pairwise.imp (fun hab => ?_) (List.Pairwise.filter _ List.pairwise_lt_range)
      right
      exact ⟨rfl, by dsimp only; omega⟩
    · obtain ⟨i, k, hi, -, -, rfl⟩ := pairs_mem.1 ha
      unfold rowP at hb
      rw [List.mem_map] at hb
      obtain ⟨k', -, rfl⟩ := hb
      left
      dsimp only
      omega
/-- the graph of the permitted pairs -/
def pairG (d : DrawD) (n : Nat) : GrD := ⟨(n : Int), (n : Int), pairsTo d n n⟩
theorem pairG_ok (d : DrawD) {n : Nat} (hn : n ≤ 16) : GOk (pairG d n) n n := by
  have hl := pairs_len d n n
  have : n * n ≤ 16 * 16 := Nat.mul_le_mul hn hn
  refine ⟨rfl, rfl, by omega, by omega, by show (pairsTo d n n).length ≤ 4096; omega, fun i hi => ?_, pairs_srt d n n⟩
  have he : nthE (pairsTo d n n) i ∈ pairsTo d n n := by
    have hi' : i < (pairsTo d n n).length := hi
    rw [nthE_get hi']; exact List.getElem_mem hi
  obtain ⟨a, b, ha, hb, -, e⟩ := pairs_mem.1 he
  show 0 ≤ (nthE (pairsTo d n n) i).1 ∧ (nthE (pairsTo d n n) i).1 < (n : Int) ∧ 0 ≤ (nthE (pairsTo d n n) i).2 ∧ (nthE (pairsTo d n n) i).2 < (n : Int)
  rw [e]
  dsimp only
  omega
theorem pairG_ed (d : DrawD) (n v r : Nat) (hv : v < n) (hr : r < n) : edB (pairG d n) v r = true ↔ mayD d v r = true := by
  unfold edB
  rw [List.contains_iff_mem]
  show _ ∈ pairsTo d n n ↔ _
  rw [pairs_mem]
  constructor
  · rintro ⟨i, k, -, -, hm, e⟩
    have e1 : (v : Int) = i := congrArg Prod.fst e
    have e2 : (r : Int) = k := congrArg Prod.snd e
    rw [show v = i by omega, show r = k by omega]; exact hm
  · intro hm
    exact ⟨v, r, hv, hr, hm, rfl⟩
theorem chk_of26 {g : GrD} {L R : Nat} (h : GOk g L R) : chkB g = true := by
  obtain ⟨h1, h2, h3, h4, h5, h6, h7⟩ := h
  refine chk_all (sizeOk_yes (by omega) (by omega) (by omega) (by omega) (by omega)) fun i hi => ?_
  have := h6 i hi
  unfold okE
  rw [h1, h2, decide_eq_true this.1, decide_eq_true this.2.1, decide_eq_true this.2.2.1, decide_eq_true this.2.2.2]
  rcases Nat.eq_zero_or_pos i with h0 | h0
  · rw [decide_eq_true h0]; rfl
  · rw [decide_eq_true (ordE_lt.2 (h7 (i - 1) i (by omega) hi))]; simp
/-- how many are not negative -/
def cntI (m : List Int) : Nat := m.countP fun x => decide (0 ≤ x)
theorem cntI_snoc {m : List Int} {k : Nat} (hk : k < m.length) : cntI (m.take (k + 1)) = cntI (m.take k) + if decide (0 ≤ nthI m k) = true then 1 else 0 := by
  unfold cntI
  rw [List.take_succ_eq_append_getElem hk, nthI_get hk, List.countP_append, List.countP_singleton]
theorem cntI_map (f : Nat → Int) : ∀ L, cntI ((List.range L).map f) = sizeM (opt f) L
  | 0 => rfl
  | L + 1 => by
    have ih := cntI_map f L
    unfold cntI sizeM at ih ⊢
    rw [List.range_succ, List.map_append, List.countP_append, ih, Sm.sumB, List.map_singleton, List.countP_singleton]
    congr 1
    unfold opt
    by_cases e : f L < 0
    · rw [if_pos e, if_neg (by simp; omega)]; rfl
    · rw [if_neg e, if_pos (by simp; omega)]; rfl
theorem cntI_le (m : List Int) (k : Nat) : cntI (m.take k) ≤ k := Nat.le_trans (List.countP_le_length) (List.length_take_le k m)
end Go.Proofs.Ytbkgkgigcohbpaa
