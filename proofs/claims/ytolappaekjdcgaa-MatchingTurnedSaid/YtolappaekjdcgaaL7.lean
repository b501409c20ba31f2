/- One edge less; turned. No program here. -/
import Derived.Test.YtolappaekjdcgaaL5
namespace Go.Proofs.Ytolappaekjdcgaa
open Sm
theorem chk_of {g : GrD} {L R : Nat} (h : GOk g L R) : chkB g = true := by
  obtain ⟨h1, h2, h3, h4, h5, h6, h7⟩ := h
  refine chk_all (sizeOk_yes (by omega) (by omega) (by omega) (by omega) (by omega)) fun i hi => ?_
  have := h6 i hi
  unfold okE
  rw [h1, h2, decide_eq_true this.1, decide_eq_true this.2.1, decide_eq_true this.2.2.1, decide_eq_true this.2.2.2]
  rcases Nat.eq_zero_or_pos i with h0 | h0
  · rw [decide_eq_true h0]; rfl
  · rw [decide_eq_true (ordE_lt.2 (h7 (i - 1) i (by omega) hi))]; simp
/-- without edge i -/
def dropE (g : GrD) (i : Nat) : GrD := ⟨g.left, g.right, g.edges.take i ++ g.edges.drop (i + 1)⟩
theorem dropE_len {g : GrD} {i : Nat} (hi : i < g.edges.length) : (dropE g i).edges.length = g.edges.length - 1 := by
  unfold dropE
  rw [List.length_append, List.length_take, List.length_drop]; omega
theorem dropE_at {g : GrD} {i j : Nat} (hi : i < g.edges.length) : nthE (dropE g i).edges j = nthE g.edges (if j < i then j else j + 1) := by
  show (g.edges.take i ++ g.edges.drop (i + 1)).getD j (0, 0) = g.edges.getD _ (0, 0)
  rw [List.getD_eq_getElem?_getD, List.getD_eq_getElem?_getD, List.getElem?_append, List.length_take]
  split
  · rw [List.getElem?_take_of_lt (by omega), if_pos (by omega)]
  · rw [List.getElem?_drop, if_neg (by omega)]
    congr 2
    omega
theorem dropE_ok {g : GrD} {L R i : Nat} (h : GOk g L R) (hi : i < g.edges.length) : GOk (dropE g i) L R := by
  have hl := dropE_len hi
  refine ⟨h.left, h.right, h.l512, h.r512, by rw [hl]; have := h.len; omega, fun j hj => ?_, fun j k hjk hk => ?_⟩
  · rw [dropE_at hi]
    exact h.rng _ (by split <;> omega)
  · rw [dropE_at hi, dropE_at hi]
    exact h.srt _ _ (by split <;> split <;> omega) (by split <;> omega)
theorem dropE_mem {g : GrD} {i : Nat} (hi : i < g.edges.length) {e : Int × Int} : (e ∈ (dropE g i).edges → e ∈ g.edges) ∧ (e ∈ g.edges → e = nthE g.edges i ∨ e ∈ (dropE g i).edges) := by
  have hs : g.edges = g.edges.take i ++ (g.edges[i] :: g.edges.drop (i + 1)) := by rw [← List.drop_eq_getElem_cons hi, List.take_append_drop]
  constructor
  · intro h
    unfold dropE at h
    rw [List.mem_append] at h
    rcases h with h | h
    · exact List.mem_of_mem_take h
    · exact List.mem_of_mem_drop h
  · intro h
    rw [hs, List.mem_append, List.mem_cons] at h
    unfold dropE
    rw [List.mem_append, nthE_get hi]
    rcases h with h | h | h
    · exact .inr (.inl h)
    · exact .inl h
    · exact .inr (.inr h)
theorem grows {g : GrD} {L R i : Nat} (h : GOk g L R) (hi : i < g.edges.length) {lf rf lf' rf' : Nat → Int} (h1 : FInv (edB g) L R lf rf L) (h2 : FInv (edB (dropE g i)) L R lf' rf' L) : sizeM (opt lf') L ≤ sizeM (opt lf) L ∧ sizeM (opt lf) L ≤ sizeM (opt lf') L + 1 := by
  constructor
  · exact finv_best h1 (h2.inv.mat.mono fun v r _ _ he => edB_iff.2 ((dropE_mem hi).1 (edB_iff.1 he)))
  · obtain ⟨a, b, hab, -⟩ := edge_nat h (List.getElem_mem hi)
    obtain ⟨m, hm, hs⟩ := h1.inv.mat.drop (E' := edB (dropE g i)) (a := a) (b := b) fun v r _ _ he => by
      rcases (dropE_mem hi).2 (edB_iff.1 he) with e | e
      · left
        rw [nthE_get hi, hab] at e
        have e1 : (v : Int) = a := congrArg Prod.fst e
        have e2 : (r : Int) = b := congrArg Prod.snd e
        omega
      · exact .inr (edB_iff.2 e)
    have := finv_best h2 hm
    omega
/-- the edges of right vertex v, turned -/
def turnV (l : List (Int × Int)) (v : Nat) : List (Int × Int) := (l.filter fun e => e.2 == (v : Int)).map fun e => ((v : Int), e.1)
def turnTo (l : List (Int × Int)) (n : Nat) : List (Int × Int) := (List.range n).flatMap (turnV l)
theorem turnTo_succ (l : List (Int × Int)) (n : Nat) : turnTo l (n + 1) = turnTo l n ++ turnV l n := by
  unfold turnTo
  rw [List.range_succ, List.flatMap_append]; simp
theorem turnV_snoc_yes {l : List (Int × Int)} {v k : Nat} (hk : k < l.length) (h : ((nthE l k).2 == (v : Int)) = true) : turnV (l.take (k + 1)) v = turnV (l.take k) v ++ [((v : Int), (nthE l k).1)] := by
  unfold turnV
  rw [List.take_succ_eq_append_getElem hk, List.filter_append, List.map_append]
  rw [nthE_get hk] at h ⊢
  simp [h]
theorem turnV_snoc_no {l : List (Int × Int)} {v k : Nat} (hk : k < l.length) (h : ((nthE l k).2 == (v : Int)) = false) : turnV (l.take (k + 1)) v = turnV (l.take k) v := by
  unfold turnV
  rw [List.take_succ_eq_append_getElem hk, List.filter_append, List.map_append]
  rw [nthE_get hk] at h
  simp [h]
theorem turn_mem {l : List (Int × Int)} {n : Nat} {e : Int × Int} : e ∈ turnTo l n ↔ ∃ v, v < n ∧ e.1 = (v : Int) ∧ (e.2, (v : Int)) ∈ l := by
  unfold turnTo turnV
  rw [List.mem_flatMap]
  constructor
  · rintro ⟨v, hv, he⟩
    rw [List.mem_map] at he
    obtain ⟨x, hx, rfl⟩ := he
    rw [List.mem_filter, beq_iff_eq] at hx
    refine ⟨v, List.mem_range.1 hv, rfl, ?_⟩
    have : (x.1, (v : Int)) = x := by rw [← hx.2]
    rw [this]; exact hx.1
  · rintro ⟨v, hv, h1, h2⟩
    refine ⟨v, List.mem_range.2 hv, List.mem_map.2 ⟨(e.2, (v : Int)), List.mem_filter.2 ⟨h2, by simp⟩, ?_⟩⟩
    rw [← h1]
theorem srt_pw {l : List (Int × Int)} : SrtE l ↔ l.Pairwise ltE := by
  rw [List.pairwise_iff_getElem]
  constructor
  · intro h i j hi hj hij
    have := h i j hij hj
    rwa [nthE_get hi, nthE_get hj] at this
  · intro h i j hij hj
    rw [nthE_get (by omega), nthE_get hj]
    exact h i j (by omega) hj hij
theorem turn_srt {l : List (Int × Int)} (h : SrtE l) (n : Nat) : SrtE (turnTo l n) := by
  rw [srt_pw] at h ⊢
  induction n with
  | zero => exact List.Pairwise.nil
  | succ n ih =>
    rw [turnTo_succ, List.pairwise_append]
    refine ⟨ih, ?_, fun a ha b hb => ?_⟩
    · unfold turnV
      rw [List.pairwise_map]
      refine List.Pairwise.imp_of_mem (fun ha hb hab => ?_) (List.Pairwise.filter _ h)
      rw [List.mem_filter, beq_iff_eq] at ha hb
      unfold ltE at hab ⊢
      dsimp only
      omega
    · obtain ⟨v, hv, e1, -⟩ := turn_mem.1 ha
      unfold turnV at hb
      rw [List.mem_map] at hb
      obtain ⟨x, -, rfl⟩ := hb
      left
      dsimp only
      omega
theorem turnV_len (l : List (Int × Int)) (v : Nat) : (turnV l v).length ≤ l.length := by unfold turnV; rw [List.length_map]; exact List.length_filter_le _ _
theorem turnTo_len (l : List (Int × Int)) : ∀ n, (turnTo l n).length ≤ n * l.length
  | 0 => by simp [turnTo]
  | n + 1 => by
    rw [turnTo_succ, List.length_append, Nat.add_mul]
    have := turnTo_len l n
    have := turnV_len l n
    omega
theorem turn_ok {g : GrD} {L R : Nat} (h : GOk g L R) (h40 : R ≤ 40) (h60 : g.edges.length ≤ 60) : GOk ⟨(R : Int), (L : Int), turnTo g.edges R⟩ R L := by
  have hl := turnTo_len g.edges R
  have : R * g.edges.length ≤ 40 * 60 := Nat.mul_le_mul h40 h60
  have key : ∀ e, e ∈ turnTo g.edges R → 0 ≤ e.1 ∧ e.1 < (R : Int) ∧ 0 ≤ e.2 ∧ e.2 < (L : Int) := fun e he => by
    obtain ⟨v, hv, e1, e2⟩ := turn_mem.1 he
    obtain ⟨a, b, e3, ha, hb, -⟩ := edge_nat h e2
    have e4 : e.2 = (a : Int) := congrArg Prod.fst e3
    omega
  refine ⟨rfl, rfl, h.r512, h.l512, by dsimp only; omega, fun i hi => ?_, turn_srt h.srt R⟩
  rw [nthE_get hi]
  exact key _ (List.getElem_mem hi)
theorem turned_ed {g : GrD} {L R : Nat} (h : GOk g L R) {v r : Nat} : edB ⟨(R : Int), (L : Int), turnTo g.edges R⟩ r v = true ↔ edB g v r = true := by
  rw [edB_iff, edB_iff]
  show _ ∈ turnTo g.edges R ↔ _
  rw [turn_mem]
  constructor
  · rintro ⟨u, hu, e1, e2⟩
    have : r = u := by dsimp only at e1; omega
    rw [this]; exact e2
  · intro he
    exact ⟨r, (edB_lt h (edB_iff.2 he)).2, rfl, he⟩
theorem turned_half {E E' : Nat → Nat → Bool} {L R : Nat} {lf rf lf' rf' : Nat → Int} (hE : ∀ v r, E v r = true → E' r v = true) (h1 : FInv E L R lf rf L) (h2 : FInv E' R L lf' rf' R) : sizeM (opt lf) L ≤ sizeM (opt lf') R := by
  have back : ∀ r v : Nat, r < R → rf r = (v : Int) → v < L ∧ lf v = (r : Int) := fun r v hr e => by
    obtain ⟨u, k1, k2, k3⟩ := h1.inv.rl r hr (by omega)
    have : u = v := by omega
    rw [← this]; exact ⟨k2, k3⟩
  have forth : ∀ v r : Nat, v < L → lf v = (r : Int) → r < R ∧ rf r = (v : Int) ∧ E v r = true := fun v r hv e => by
    obtain ⟨q, k1, k2, k3, k4⟩ := h1.inv.lr v hv (by omega)
    have : q = r := by omega
    rw [← this]; exact ⟨k2, k3, k4⟩
  have e : sizeM (opt rf) R = sizeM (opt lf) L := size_turned (fun v r hv e => (forth v r hv (opt_some.1 e)).1) (fun r v hr e => (back r v hr (opt_some.1 e)).1) (fun v r hv hr => by
    rw [opt_some, opt_some]
    exact ⟨fun e => (forth v r hv e).2.1, fun e => (back r v hr e).2⟩)
  rw [← e]
  refine finv_best h2 ⟨fun r v hr e => ?_, fun r q v hr hq e1 e2 => ?_⟩
  · obtain ⟨b1, b2⟩ := back r v hr (opt_some.1 e)
    exact ⟨hE v r (forth v r b1 b2).2.2, b1⟩
  · have b1 := (back r v hr (opt_some.1 e1)).2
    have b2 := (back q v hq (opt_some.1 e2)).2
    omega
theorem turned {g : GrD} {L R : Nat} (h : GOk g L R) {lf rf lf' rf' : Nat → Int} (h1 : FInv (edB g) L R lf rf L) (h2 : FInv (edB ⟨(R : Int), (L : Int), turnTo g.edges R⟩) R L lf' rf' R) : sizeM (opt lf) L = sizeM (opt lf') R :=
  Nat.le_antisymm (turned_half (fun _ _ he => (turned_ed h).2 he) h1 h2) (turned_half (fun _ _ he => (turned_ed h).1 he) h2 h1)
end Go.Proofs.Ytolappaekjdcgaa
