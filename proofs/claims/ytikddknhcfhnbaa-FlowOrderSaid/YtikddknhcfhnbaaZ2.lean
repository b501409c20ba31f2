/- Plain laws of networks, second part. -/
import Derived.Test.YtikddknhcfhnbaaZ1
import Derived.Test.YtikddknhcfhnbaaB4
/- Codes of arcs: an arc, or minus 1 less it. No program here. -/
namespace Go.Proofs.Ytikddknhcfhnbaa
/-- where a code leads -/
def hdA (n : NetD) (z : Int) : Int := if 0 ≤ z then (nthA n.arcs z.toNat).dst else (nthA n.arcs (-1 - z).toNat).src
/-- where it begins -/
def tlA (n : NetD) (z : Int) : Int := if 0 ≤ z then (nthA n.arcs z.toNat).src else (nthA n.arcs (-1 - z).toNat).dst
/-- the arc of a code -/
def ixA (z : Int) : Nat := if 0 ≤ z then z.toNat else (-1 - z).toNat
/-- how much can go along it -/
def rmA (fo bk : Nat → Int) (z : Int) : Int := if 0 ≤ z then fo z.toNat else bk (-1 - z).toNat
theorem code_cases (z : Int) : (∃ i : Nat, z = (i : Int) ∧ ixA z = i) ∨ ∃ i : Nat, z = -1 - (i : Int) ∧ ixA z = i := by
  unfold ixA
  by_cases h : 0 ≤ z
  · exact .inl ⟨z.toNat, by omega, by rw [if_pos h]⟩
  · exact .inr ⟨(-1 - z).toNat, by omega, by rw [if_neg h]⟩
section
variable {n : NetD} {V : Nat} {fo bk : Nat → Int}
theorem hdA_fo (i : Nat) : hdA n (i : Int) = (nthA n.arcs i).dst := by unfold hdA; rw [if_pos (by omega), Int.toNat_natCast]
theorem tlA_fo (i : Nat) : tlA n (i : Int) = (nthA n.arcs i).src := by unfold tlA; rw [if_pos (by omega), Int.toNat_natCast]
theorem ixA_fo (i : Nat) : ixA (i : Int) = i := by unfold ixA; rw [if_pos (by omega), Int.toNat_natCast]
theorem rmA_fo (i : Nat) : rmA fo bk (i : Int) = fo i := by unfold rmA; rw [if_pos (by omega), Int.toNat_natCast]
theorem bk_nat (i : Nat) : ((-1 : Int) - (-1 - (i : Int))).toNat = i := by omega
theorem hdA_bk (i : Nat) : hdA n (-1 - (i : Int)) = (nthA n.arcs i).src := by unfold hdA; rw [if_neg (by omega), bk_nat]
theorem tlA_bk (i : Nat) : tlA n (-1 - (i : Int)) = (nthA n.arcs i).dst := by unfold tlA; rw [if_neg (by omega), bk_nat]
theorem ixA_bk (i : Nat) : ixA (-1 - (i : Int)) = i := by unfold ixA; rw [if_neg (by omega), bk_nat]
theorem rmA_bk (i : Nat) : rmA fo bk (-1 - (i : Int)) = bk i := by unfold rmA; rw [if_neg (by omega), bk_nat]
/-- the codes at a vertex -/
theorem adj_mem (hn : NOk n V) {u : Nat} {z : Int} : ∀ {k : Nat}, k ≤ n.arcs.length → (z ∈ adjT n.arcs k u ↔ ixA z < k ∧ tlA n z = (u : Int))
  | 0, _ => by
    exact ⟨fun h => absurd h (List.not_mem_nil), fun h => absurd h.1 (by omega)⟩
  | k + 1, hk => by
    have ih := adj_mem hn (u := u) (z := z) (k := k) (by omega)
    obtain ⟨a, b, c, e, ha, hb0, hb, hab, hc⟩ := hn.arc k (by omega)
    have hadj : adjT n.arcs (k + 1) u = updV (updV (adjT n.arcs k) a (adjT n.arcs k a ++ [(k : Int)])) b (updV (adjT n.arcs k) a (adjT n.arcs k a ++ [(k : Int)]) b ++ [-1 - (k : Int)]) u := by
      show updV (updV (adjT n.arcs k) (nthA n.arcs k).src.toNat _) (nthA n.arcs k).dst.toNat _ u = _
      rw [e]; rfl
    have hz : ixA z < k + 1 ↔ ixA z < k ∨ z = (k : Int) ∨ z = -1 - (k : Int) := by
      rcases code_cases z with ⟨i, rfl, hi⟩ | ⟨i, rfl, hi⟩ <;> rw [hi] <;> omega
    have t1 : tlA n (k : Int) = (a : Int) := by rw [tlA_fo, e]
    have t2 : tlA n (-1 - (k : Int)) = (b : Int) := by rw [tlA_bk, e]
    rw [hadj, hz]
    by_cases eb : u = b
    · subst eb
      rw [updV_same, updV_other (fun q => hab q.symm), List.mem_append, List.mem_singleton, ih]
      constructor
      · rintro (⟨p, q⟩ | rfl)
        · exact ⟨.inl p, q⟩
        · exact ⟨.inr (.inr rfl), t2⟩
      · rintro ⟨p | rfl | rfl, q⟩
        · exact .inl ⟨p, q⟩
        · rw [t1] at q; omega
        · exact .inr rfl
    · rw [updV_other eb]
      by_cases ea : u = a
      · subst ea
        rw [updV_same, List.mem_append, List.mem_singleton, ih]
        constructor
        · rintro (⟨p, q⟩ | rfl)
          · exact ⟨.inl p, q⟩
          · exact ⟨.inr (.inl rfl), t1⟩
        · rintro ⟨p | rfl | rfl, q⟩
          · exact .inl ⟨p, q⟩
          · exact .inr rfl
          · rw [t2] at q; omega
      · rw [updV_other ea, ih]
        constructor
        · rintro ⟨p, q⟩; exact ⟨.inl p, q⟩
        · rintro ⟨p | rfl | rfl, q⟩
          · exact ⟨p, q⟩
          · rw [t1] at q; omega
          · rw [t2] at q; omega
theorem hdA_rng (hn : NOk n V) {z : Int} (hz : ixA z < n.arcs.length) : ∃ t : Nat, t < V ∧ hdA n z = (t : Int) ∧ tlA n z ≠ (t : Int) := by
  rcases code_cases z with ⟨i, rfl, hi⟩ | ⟨i, rfl, hi⟩
  · rw [hi] at hz
    obtain ⟨a, b, c, e, ha, hb0, hb, hab, hc⟩ := hn.arc i hz
    exact ⟨b, hb, by rw [hdA_fo, e], by rw [tlA_fo, e]; dsimp only; omega⟩
  · rw [hi] at hz
    obtain ⟨a, b, c, e, ha, hb0, hb, hab, hc⟩ := hn.arc i hz
    exact ⟨a, by omega, by rw [hdA_bk, e], by rw [tlA_bk, e]; dsimp only; omega⟩
/-- a step with room -/
def EdR (n : NetD) (fo bk : Nat → Int) (u v : Nat) : Prop := ∃ z, ixA z < n.arcs.length ∧ tlA n z = (u : Int) ∧ hdA n z = (v : Int) ∧ 0 < rmA fo bk z
theorem EdR.lt (hn : NOk n V) {u v : Nat} (h : EdR n fo bk u v) : v < V := by
  obtain ⟨z, h1, h2, h3, h4⟩ := h
  obtain ⟨t, a, b, -⟩ := hdA_rng hn h1
  omega
end
end Go.Proofs.Ytikddknhcfhnbaa
/- advance: pushing along the levels. No program here. -/
namespace Go.Proofs.Ytikddknhcfhnbaa
def psF (fo : Nat → Int) (z x : Int) : Nat → Int := if 0 ≤ z then updI fo (ixA z) (fo (ixA z) - x) else updI fo (ixA z) (fo (ixA z) + x)
def psB (bk : Nat → Int) (z x : Int) : Nat → Int := if 0 ≤ z then updI bk (ixA z) (bk (ixA z) + x) else updI bk (ixA z) (bk (ixA z) - x)
section
variable {n : NetD} {V : Nat} {fo bk : Nat → Int} {lv : Nat → Int}
theorem psF_fo (i : Nat) (x : Int) : psF fo (i : Int) x = updI fo i (fo i - x) := by unfold psF; rw [if_pos (by omega), ixA_fo]
theorem psF_bk (i : Nat) (x : Int) : psF fo (-1 - (i : Int)) x = updI fo i (fo i + x) := by unfold psF; rw [if_neg (by omega), ixA_bk]
theorem psB_fo (i : Nat) (x : Int) : psB bk (i : Int) x = updI bk i (bk i + x) := by unfold psB; rw [if_pos (by omega), ixA_fo]
theorem psB_bk (i : Nat) (x : Int) : psB bk (-1 - (i : Int)) x = updI bk i (bk i - x) := by unfold psB; rw [if_neg (by omega), ixA_bk]
theorem ps_other {z x : Int} {i : Nat} (h : i ≠ ixA z) : psF fo z x i = fo i ∧ psB bk z x i = bk i := by
  unfold psF psB
  split <;> exact ⟨updI_other h, updI_other h⟩
theorem Res.push {z x : Int} (h : Res n fo bk) (h0 : 0 ≤ x) (h1 : x ≤ rmA fo bk z) : Res n (psF fo z x) (psB bk z x) := by
  rcases code_cases z with ⟨i, rfl, -⟩ | ⟨i, rfl, -⟩
  · rw [psF_fo, psB_fo]; rw [rmA_fo] at h1; exact h.forth h0 h1
  · rw [psF_bk, psB_bk]; rw [rmA_bk] at h1; exact h.back h0 h1
theorem rm_push {z x z' : Int} (hx : 0 ≤ x) (h : 0 < rmA (psF fo z x) (psB bk z x) z') : 0 < rmA fo bk z' ∨ z' = -1 - z := by
  rcases code_cases z with ⟨i, rfl, -⟩ | ⟨i, rfl, -⟩ <;> rcases code_cases z' with ⟨j, rfl, -⟩ | ⟨j, rfl, -⟩
  · rw [psF_fo, psB_fo, rmA_fo] at h
    rw [rmA_fo]
    by_cases e : j = i
    · subst e; rw [updI_same] at h; left; omega
    · rw [updI_other e] at h; exact .inl h
  · rw [psF_fo, psB_fo, rmA_bk] at h
    rw [rmA_bk]
    by_cases e : j = i
    · subst e; exact .inr rfl
    · rw [updI_other e] at h; exact .inl h
  · rw [psF_bk, psB_bk, rmA_fo] at h
    rw [rmA_fo]
    by_cases e : j = i
    · subst e; right; omega
    · rw [updI_other e] at h; exact .inl h
  · rw [psF_bk, psB_bk, rmA_bk] at h
    rw [rmA_bk]
    by_cases e : j = i
    · subst e; rw [updI_same] at h; left; omega
    · rw [updI_other e] at h; exact .inl h
theorem netB_push {z x y : Int} {k : Nat} (hz : ixA z < k) : netB n (psB bk z x) y k = netB n bk y k + (if tlA n z = y then x else 0) - (if hdA n z = y then x else 0) := by
  rcases code_cases z with ⟨i, rfl, hi⟩ | ⟨i, rfl, hi⟩
  · rw [hi] at hz
    rw [psB_fo, tlA_fo, hdA_fo]; exact netB_upd hz
  · rw [hi] at hz
    rw [psB_bk, tlA_bk, hdA_bk, show bk i - x = bk i + (-x) by omega, netB_upd hz]
    split <;> split <;> omega
theorem hdA_rev (z : Int) : hdA n (-1 - z) = tlA n z ∧ tlA n (-1 - z) = hdA n z := by
  rcases code_cases z with ⟨i, rfl, -⟩ | ⟨i, rfl, -⟩
  · rw [hdA_bk, tlA_bk, hdA_fo, tlA_fo]; exact ⟨rfl, rfl⟩
  · rw [show (-1 : Int) - (-1 - (i : Int)) = (i : Int) by omega, hdA_bk, tlA_bk, hdA_fo, tlA_fo]; exact ⟨rfl, rfl⟩
/-- the ends of a code's arc -/
theorem code_ends (z : Int) : ((nthA n.arcs (ixA z)).src = tlA n z ∧ (nthA n.arcs (ixA z)).dst = hdA n z) ∨ ((nthA n.arcs (ixA z)).src = hdA n z ∧ (nthA n.arcs (ixA z)).dst = tlA n z) := by
  rcases code_cases z with ⟨i, rfl, hi⟩ | ⟨i, rfl, hi⟩
  · rw [hi, hdA_fo, tlA_fo]; exact .inl ⟨rfl, rfl⟩
  · rw [hi, hdA_bk, tlA_bk]; exact .inr ⟨rfl, rfl⟩
end
/-- the codes at a vertex -/
def adjN (n : NetD) (u : Nat) : List Int := adjT n.arcs n.arcs.length u
/-- a vertex of which nothing is left -/
def Dead (n : NetD) (V : Nat) (us : Nat → Nat) (x : Nat) : Prop := x ≠ V - 1 ∧ us x = (adjN n x).length
/-- what advance keeps: a code that was passed by is of no more use -/
structure AdvI (n : NetD) (V : Nat) (lv fo bk : Nat → Int) (us : Nat → Nat) : Prop where
  res : Res n fo bk
  ule : ∀ u, u < V → us u ≤ (adjN n u).length
  inv : ∀ u, u < V → ∀ j, j < us u → 0 < rmA fo bk (nthI (adjN n u) j) → lv (hdA n (nthI (adjN n u) j)).toNat = lv u + 1 → Dead n V us (hdA n (nthI (adjN n u) j)).toNat
structure AdvP (n : NetD) (V : Nat) (lv : Nat → Int) (v : Nat) (amt got : Int) (fo bk : Nat → Int) (us : Nat → Nat) (fo' bk' : Nat → Int) (us' : Nat → Nat) : Prop where
  i : AdvI n V lv fo' bk' us'
  rng : 0 ≤ got ∧ got ≤ amt
  bal : ∀ x : Int, netB n bk' x n.arcs.length = netB n bk x n.arcs.length + (if x = (v : Int) then got else 0) - (if x = ((V - 1 : Nat) : Int) then got else 0)
  mono : ∀ u, u < V → us u ≤ us' u
  low : ∀ u, u < V → lv u < lv v → us' u = us u
  frm : ∀ i, i < n.arcs.length → (lv (nthA n.arcs i).src.toNat < lv v ∨ lv (nthA n.arcs i).dst.toNat < lv v) → fo' i = fo i ∧ bk' i = bk i
  zero : got = 0 → v ≠ V - 1 ∧ us' v = (adjN n v).length ∧ fo' = fo ∧ bk' = bk
/-- on its way: all that was tried gave nothing -/
structure AdvL (n : NetD) (V : Nat) (lv : Nat → Int) (v : Nat) (fo bk : Nat → Int) (us us' : Nat → Nat) : Prop where
  i : AdvI n V lv fo bk us'
  mono : ∀ u, u < V → us u ≤ us' u
  low : ∀ u, u < V → lv u < lv v → us' u = us u
section
variable {n : NetD} {V : Nat} {lv fo bk fo' bk' : Nat → Int} {us us' us'' : Nat → Nat} {v t : Nat} {amt got z : Int}
theorem AdvP.sink (h : AdvI n V lv fo bk us) (hv : v = V - 1) (ha : 0 < amt) : AdvP n V lv v amt amt fo bk us fo bk us := by
  subst hv
  exact ⟨h, ⟨by omega, Int.le_refl _⟩, fun x => by omega, fun _ _ => Nat.le_refl _, fun _ _ _ => rfl, fun _ _ _ => ⟨rfl, rfl⟩, fun e => by omega⟩
theorem AdvL.start (h : AdvI n V lv fo bk us) : AdvL n V lv v fo bk us us := ⟨h, fun _ _ => Nat.le_refl _, fun _ _ _ => rfl⟩
/-- one code more is passed by -/
theorem AdvL.step (h : AdvL n V lv v fo bk us us') (hv : v < V) (hj : us' v < (adjN n v).length) (hz : z = nthI (adjN n v) (us' v)) (hd : 0 < rmA fo bk z → lv (hdA n z).toNat = lv v + 1 → Dead n V us' (hdA n z).toNat) : AdvL n V lv v fo bk us (updV us' v (us' v + 1)) := by
  have hk : ∀ x, Dead n V us' x → Dead n V (updV us' v (us' v + 1)) x := fun x hx => by
    refine ⟨hx.1, ?_⟩
    have hxv : x ≠ v := fun e => by subst e; have := hx.2; omega
    rw [updV_other hxv]; exact hx.2
  refine ⟨⟨h.i.res, fun u hu => ?_, fun u hu j hj' h0 hl => ?_⟩, fun u hu => ?_, fun u hu hl => ?_⟩
  · by_cases e : u = v
    · subst e; rw [updV_same]; omega
    · rw [updV_other e]; exact h.i.ule u hu
  · by_cases e : u = v
    · subst e
      rw [updV_same] at hj'
      rcases Nat.lt_or_ge j (us' u) with a | a
      · exact hk _ (h.i.inv u hu j a h0 hl)
      · obtain rfl : j = us' u := by omega
        rw [← hz] at h0 hl ⊢
        exact hk _ (hd h0 hl)
    · rw [updV_other e] at hj'
      exact hk _ (h.i.inv u hu j hj' h0 hl)
  · have := h.mono u hu
    by_cases e : u = v
    · subst e; rw [updV_same]; omega
    · rw [updV_other e]; exact this
  · rw [updV_other fun e => by subst e; omega]; exact h.low u hu hl
/-- the call one level deeper gave nothing -/
theorem AdvL.rec0 (h : AdvL n V lv v fo bk us us') (hl : lv t = lv v + 1) (hp : AdvP n V lv t amt 0 fo bk us' fo' bk' us'') (hv : v < V) : fo' = fo ∧ bk' = bk ∧ AdvL n V lv v fo bk us us'' ∧ Dead n V us'' t ∧ us'' v = us' v := by
  obtain ⟨h1, h2, rfl, rfl⟩ := hp.zero rfl
  exact ⟨rfl, rfl, ⟨hp.i, fun u hu => Nat.le_trans (h.mono u hu) (hp.mono u hu), fun u hu hlu => (hp.low u hu (by omega)).trans (h.low u hu hlu)⟩, ⟨h1, h2⟩, hp.low v hv (by omega)⟩
theorem AdvL.fin (h : AdvL n V lv v fo bk us us') (hs : v ≠ V - 1) (he : us' v = (adjN n v).length) (ha : 0 < amt) : AdvP n V lv v amt 0 fo bk us fo bk us' :=
  ⟨h.i, ⟨Int.le_refl _, by omega⟩, fun x => by split <;> split <;> omega, h.mono, h.low, fun _ _ _ => ⟨rfl, rfl⟩, fun _ => ⟨hs, he, rfl, rfl⟩⟩
/-- the call one level deeper gave something: it is pushed -/
theorem AdvL.rec1 (hn : NOk n V) (h : AdvL n V lv v fo bk us us') (hv : v < V) (hz : ixA z < n.arcs.length) (htl : tlA n z = (v : Int)) (hhd : hdA n z = (t : Int)) (hl : lv t = lv v + 1) (hg : 0 < got) (hr : got ≤ rmA fo bk z) (ha : got ≤ amt) {a : Int} (hp : AdvP n V lv t a got fo bk us' fo' bk' us'') :
    rmA fo' bk' z = rmA fo bk z ∧ AdvP n V lv v amt got fo bk us (psF fo' z got) (psB bk' z got) us'' := by
  have he := code_ends (n := n) z
  have hkeep : fo' (ixA z) = fo (ixA z) ∧ bk' (ixA z) = bk (ixA z) := by
    refine hp.frm (ixA z) hz ?_
    rcases he with ⟨e1, e2⟩ | ⟨e1, e2⟩
    · left; rw [e1, htl, Int.toNat_natCast]; omega
    · right; rw [e2, htl, Int.toNat_natCast]; omega
  have hrm : rmA fo' bk' z = rmA fo bk z := by
    rcases code_cases z with ⟨i, rfl, hi⟩ | ⟨i, rfl, hi⟩
    · rw [hi] at hkeep; rw [rmA_fo, rmA_fo]; exact hkeep.1
    · rw [hi] at hkeep; rw [rmA_bk, rmA_bk]; exact hkeep.2
  refine ⟨hrm, ⟨hp.i.res.push (by omega) (by rw [hrm]; exact hr), hp.i.ule, fun u hu j hj h0 hlu => ?_⟩, ⟨by omega, ha⟩, fun x => ?_, fun u hu => Nat.le_trans (h.mono u hu) (hp.mono u hu), fun u hu hlu => (hp.low u hu (by omega)).trans (h.low u hu hlu), fun i hi hlo => ?_, fun e => by omega⟩
  · rcases rm_push (by omega) h0 with q | q
    · exact hp.i.inv u hu j hj q hlu
    · exfalso
      have hm : nthI (adjN n u) j ∈ adjN n u := by
        have := hp.i.ule u hu
        rw [nthI_get (by omega)]; exact List.getElem_mem _
      have := ((adj_mem hn (Nat.le_refl _)).1 hm).2
      rw [q, (hdA_rev z).2, hhd] at this
      rw [q, (hdA_rev z).1, htl, Int.toNat_natCast] at hlu
      obtain rfl : t = u := by omega
      omega
  · rw [netB_push hz, hp.bal x, htl, hhd]
    by_cases e1 : x = (v : Int) <;> by_cases e2 : x = (t : Int) <;> by_cases e3 : x = ((V - 1 : Nat) : Int) <;> simp only [e1, e2, e3, if_true, if_false] <;> split <;> (try split) <;> (try split) <;> omega
  · have hne : i ≠ ixA z := fun e => by
      subst e
      rcases he with ⟨e1, e2⟩ | ⟨e1, e2⟩
      · rw [e1, e2, htl, hhd, Int.toNat_natCast, Int.toNat_natCast] at hlo; omega
      · rw [e1, e2, htl, hhd, Int.toNat_natCast, Int.toNat_natCast] at hlo; omega
    rw [(ps_other (fo := fo') (bk := bk') hne).1, (ps_other (fo := fo') (bk := bk') hne).2]
    exact hp.frm i hi (by rcases hlo with a | a; exact .inl (by omega); exact .inr (by omega))
/-- the phase's first call gives something -/
theorem first_pos (hn : NOk n V) (hp : AdvP n V lv 0 amt got fo bk (fun _ => 0) fo' bk' us') (hc : Chain (EdR n fo bk) lv 0 (V - 1)) : 0 < got := by
  rcases Int.lt_or_le 0 got with h | h
  · exact h
  · exfalso
    have h0 : got = 0 := by have := hp.rng; omega
    obtain ⟨h1, h2, rfl, rfl⟩ := hp.zero h0
    have hD : ∀ u v, (u < V ∧ Dead n V us' u) → EdR n fo' bk' u v → lv v = lv u + 1 → (v < V ∧ Dead n V us' v) := by
      rintro u w ⟨hu, hd⟩ he hl
      have hw := he.lt hn
      obtain ⟨z, a, b, c, d⟩ := he
      have hm : z ∈ adjN n u := (adj_mem hn (Nat.le_refl _)).2 ⟨a, b⟩
      obtain ⟨j, hj, hjz⟩ := List.mem_iff_getElem.1 hm
      have hz : nthI (adjN n u) j = z := by rw [nthI_get hj]; exact hjz
      have := hp.i.inv u hu j (by rw [hd.2]; exact hj) (by rw [hz]; exact d) (by rw [hz, c, Int.toNat_natCast]; exact hl)
      rw [hz, c, Int.toNat_natCast] at this
      exact ⟨hw, this⟩
    have hlo := hn.lo
    have := Chain.closed (D := fun u => u < V ∧ Dead n V us' u) hD hc ⟨by omega, h1, h2⟩
    exact this.2.1 rfl
end
end Go.Proofs.Ytikddknhcfhnbaa
/- What Max answers. No program here. -/
namespace Go.Proofs.Ytikddknhcfhnbaa
/-- the amounts of the first k arcs -/
def flT (bk : Nat → Int) : Nat → List Int
  | 0 => []
  | k + 1 => flT bk k ++ [bk k]
theorem flT_len (bk : Nat → Int) : ∀ k, (flT bk k).length = k
  | 0 => rfl
  | k + 1 => by unfold flT; rw [List.length_append, flT_len bk k]; rfl
theorem flT_at (bk : Nat → Int) : ∀ {k i : Nat}, i < k → nthI (flT bk k) i = bk i
  | 0, _, h => absurd h (by omega)
  | k + 1, i, h => by
    unfold flT nthI
    rw [List.getD_eq_getElem?_getD]
    by_cases e : i = k
    · subst e
      rw [List.getElem?_append_right (by rw [flT_len]; omega), flT_len, Nat.sub_self]; rfl
    · rw [List.getElem?_append_left (by rw [flT_len]; omega), ← List.getD_eq_getElem?_getD]
      exact flT_at bk (k := k) (by omega)
/-- the vertices before k that are reached -/
def sdT (lv : Nat → Int) : Nat → List Int
  | 0 => []
  | k + 1 => sdT lv k ++ if 0 ≤ lv k then [(k : Int)] else []
theorem sdT_len (lv : Nat → Int) : ∀ k, (sdT lv k).length ≤ k
  | 0 => Nat.le_refl _
  | k + 1 => by
    have := sdT_len lv k
    unfold sdT
    rw [List.length_append]
    split <;> simp <;> omega
theorem sdT_mem (lv : Nat → Int) {x : Int} : ∀ {k : Nat}, x ∈ sdT lv k ↔ ∃ v : Nat, v < k ∧ x = (v : Int) ∧ 0 ≤ lv v
  | 0 => ⟨fun h => absurd h List.not_mem_nil, fun ⟨v, h, _⟩ => absurd h (by omega)⟩
  | k + 1 => by
    unfold sdT
    rw [List.mem_append, sdT_mem lv (k := k)]
    constructor
    · rintro (⟨v, a, b, c⟩ | h)
      · exact ⟨v, by omega, b, c⟩
      · split at h
        · next h0 => rw [List.mem_singleton] at h; exact ⟨k, by omega, h, h0⟩
        · cases h
    · rintro ⟨v, a, b, c⟩
      by_cases e : v = k
      · subst e; right; rw [if_pos c, List.mem_singleton]; exact b
      · exact .inl ⟨v, by omega, b, c⟩
theorem sdT_pair (lv : Nat → Int) : ∀ k, (sdT lv k).Pairwise (· < ·)
  | 0 => List.Pairwise.nil
  | k + 1 => by
    unfold sdT
    rw [List.pairwise_append]
    refine ⟨sdT_pair lv k, by split <;> simp, fun x hx y hy => ?_⟩
    obtain ⟨v, a, b, -⟩ := (sdT_mem lv).1 hx
    split at hy
    · rw [List.mem_singleton] at hy; omega
    · cases hy
theorem riseTo_of {l : List Int} (h : l.Pairwise (· < ·)) : riseTo l l.length := fun i h1 h2 => by
  have := (List.pairwise_iff_getElem.1 h) (i - 1) i (by omega) h2 (by omega)
  rw [nthI_get (by omega), nthI_get h2]; exact this
/-- balances -/
structure BalP (n : NetD) (V : Nat) (bk : Nat → Int) (val : Int) : Prop where
  mid : ∀ v : Nat, 1 ≤ v → v + 1 < V → netB n bk (v : Int) n.arcs.length = 0
  val : netB n bk 0 n.arcs.length = val
theorem netB_le {n : NetD} {g : Nat → Int} {v : Int} : ∀ {k : Nat}, (∀ j, j < k → 0 ≤ g j ∧ g j ≤ 1073741824) → -(1073741824 * (k : Int)) ≤ netB n g v k ∧ netB n g v k ≤ 1073741824 * (k : Int)
  | 0, _ => by simp [netB]
  | k + 1, h => by
    have ih := netB_le (n := n) (v := v) (k := k) fun j hj => h j (by omega)
    have := h k (by omega)
    unfold netB
    split <;> split <;> omega
theorem netB_zero {n : NetD} {v : Int} : ∀ k, netB n (fun _ => 0) v k = 0
  | 0 => rfl
  | k + 1 => by unfold netB; rw [netB_zero k]; split <;> split <;> rfl
theorem Res.le {n : NetD} {V : Nat} {fo bk : Nat → Int} (h : Res n fo bk) (hn : NOk n V) {j : Nat} (hj : j < n.arcs.length) : 0 ≤ bk j ∧ bk j ≤ 1073741824 := by
  obtain ⟨a, b, c, e, -, -, -, -, hc⟩ := hn.arc j hj
  have h1 := h.sum j hj
  have h2 := h.fo0 j hj
  have h3 := h.bk0 j hj
  rw [e] at h1
  dsimp only at h1
  omega
theorem BalP.bound {n : NetD} {V : Nat} {fo bk : Nat → Int} {val : Int} (h : BalP n V bk val) (hr : Res n fo bk) (hn : NOk n V) : val ≤ 4398046511104 := by
  have := (netB_le (n := n) (g := bk) (v := 0) (k := n.arcs.length) fun j hj => hr.le hn hj).2
  rw [h.val] at this
  have := hn.len
  omega
theorem BalP.start {n : NetD} {V : Nat} : BalP n V (fun _ => 0) 0 := ⟨fun _ _ _ => netB_zero _, netB_zero _⟩
theorem BalP.adv {n : NetD} {V : Nat} {lv fo bk fo' bk' : Nat → Int} {us us' : Nat → Nat} {val amt got : Int} (h : BalP n V bk val) (hn : NOk n V) (hp : AdvP n V lv 0 amt got fo bk us fo' bk' us') : BalP n V bk' (val + got) := by
  have hV := hn.lo
  refine ⟨fun v h1 h2 => ?_, ?_⟩
  · rw [hp.bal, h.mid v h1 h2, if_neg (by omega), if_neg (by omega)]; rfl
  · rw [hp.bal, h.val, if_pos (by omega), if_neg (by omega)]; omega
/-- what is laid before the first push -/
theorem Res.start {n : NetD} {V : Nat} (hn : NOk n V) : Res n (foT n.arcs n.arcs.length) (fun _ => 0) := by
  refine ⟨fun i hi => ?_, fun i hi => ?_, fun _ _ => Int.le_refl _⟩
  · unfold foT; rw [if_pos hi]; omega
  · obtain ⟨a, b, c, e, -⟩ := hn.arc i hi
    unfold foT; rw [if_pos hi, e]; dsimp only; omega
theorem AdvI.start {n : NetD} {V : Nat} {lv fo bk : Nat → Int} (h : Res n fo bk) : AdvI n V lv fo bk (fun _ => 0) := ⟨h, fun _ _ => Nat.zero_le _, fun _ _ _ hj => absurd hj (by omega)⟩
/-- what Max answers -/
structure MaxQ (n : NetD) (V : Nat) (fo bk lv : Nat → Int) (val : Int) : Prop where
  res : Res n fo bk
  bal : BalP n V bk val
  lev : LevP (EdR n fo bk) V lv
  snk : lv (V - 1) < 0
  pos : 0 ≤ val
def MaxP (n : NetD) (V : Nat) (fl : List Int) (val : Int) (sd : List Int) : Prop := ∃ fo bk lv, MaxQ n V fo bk lv val ∧ fl = flT bk n.arcs.length ∧ sd = sdT lv V
end Go.Proofs.Ytikddknhcfhnbaa
/- Max's answer is the greatest flow, and the smallest of the least sides. No program here. -/
namespace Go.Proofs.Ytikddknhcfhnbaa
section
variable {n : NetD} {f : List Int} {S : Nat → Bool} {V : Nat}
theorem out_each : ∀ {k : Nat}, (∀ j, j < k → nthI f j ≤ (nthA n.arcs j).cap) → capS n S k ≤ outF n f S k → ∀ j, j < k → S (nthA n.arcs j).src.toNat = true → S (nthA n.arcs j).dst.toNat = false → nthI f j = (nthA n.arcs j).cap
  | 0, _, _ => fun j hj => absurd hj (by omega)
  | k + 1, h, hc => by
    have hle := out_le (n := n) (f := f) (S := S) (k := k) fun j hj => h j (by omega)
    have hk := h k (by omega)
    unfold outF capS at hc
    intro j hj a b
    by_cases e : j = k
    · subst e
      rw [a, b] at hc
      simp only [Bool.not_false, Bool.and_true, if_true] at hc
      omega
    · refine out_each (k := k) (fun j hj => h j (by omega)) ?_ j (by omega) a b
      split at hc <;> omega
theorem in_each : ∀ {k : Nat}, (∀ j, j < k → 0 ≤ nthI f j) → inF n f S k ≤ 0 → ∀ j, j < k → S (nthA n.arcs j).src.toNat = false → S (nthA n.arcs j).dst.toNat = true → nthI f j = 0
  | 0, _, _ => fun j hj => absurd hj (by omega)
  | k + 1, h, hc => by
    have hle := in_ge (n := n) (f := f) (S := S) (k := k) fun j hj => h j (by omega)
    have hk := h k (by omega)
    unfold inF at hc
    intro j hj a b
    by_cases e : j = k
    · subst e
      rw [a, b] at hc
      simp only [Bool.not_false, Bool.and_true, if_true] at hc
      omega
    · refine in_each (k := k) (fun j hj => h j (by omega)) ?_ j (by omega) a b
      split at hc <;> omega
end
/-- the best: a flow, its value and a side -/
structure Best (n : NetD) (V : Nat) (fl : List Int) (val : Int) (sd : List Int) : Prop where
  len : fl.length = n.arcs.length
  flow : valB n fl = true
  vEq : netF n fl 0 n.arcs.length = val
  side : sideB n sd = true
  rise : sd.Pairwise (· < ·)
  mem : ∀ x ∈ sd, ∃ v : Nat, v < V ∧ x = (v : Int)
  cEq : capS n (setS sd) n.arcs.length = val
  low : ∀ S : Nat → Bool, S 0 = true → S (V - 1) = false → val ≤ capS n S n.arcs.length
  least : ∀ S : Nat → Bool, S 0 = true → S (V - 1) = false → capS n S n.arcs.length = val → ∀ v : Nat, (v : Int) ∈ sd → S v = true
  out : ∀ j, j < n.arcs.length → setS sd (nthA n.arcs j).src.toNat = true → setS sd (nthA n.arcs j).dst.toNat = false → nthI fl j = (nthA n.arcs j).cap
  inn : ∀ j, j < n.arcs.length → setS sd (nthA n.arcs j).src.toNat = false → setS sd (nthA n.arcs j).dst.toNat = true → nthI fl j = 0
  rng : ∀ j, j < n.arcs.length → 0 ≤ nthI fl j ∧ nthI fl j ≤ (nthA n.arcs j).cap
  pos : 0 ≤ val
  top : val ≤ 4398046511104
theorem setS_iff {s : List Int} {v : Nat} : setS s v = true ↔ (v : Int) ∈ s := by unfold setS; rw [List.contains_iff_mem]
theorem setS_no {s : List Int} {v : Nat} : setS s v = false ↔ ¬ (v : Int) ∈ s := by rw [← Bool.not_eq_true, setS_iff]
theorem best_of {n : NetD} {V : Nat} (hch : chkN n = true) (hn : NOk n V) {fl sd : List Int} {val : Int} (h : MaxP n V fl val sd) : Best n V fl val sd := by
  obtain ⟨fo, bk, lv, hq, rfl, rfl⟩ := h
  have hV := hn.lo
  have hf : ∀ i, i < n.arcs.length → nthI (flT bk n.arcs.length) i = bk i := fun i hi => flT_at bk hi
  have hnet : ∀ v : Int, netF n (flT bk n.arcs.length) v n.arcs.length = netB n bk v n.arcs.length := fun v => by
    rw [netF_B]; exact netB_congr hf
  have hmid : ∀ v : Nat, 1 ≤ v → v + 1 < V → netF n (flT bk n.arcs.length) (v : Int) n.arcs.length = 0 := fun v h1 h2 => by rw [hnet]; exact hq.bal.mid v h1 h2
  have hval : netF n (flT bk n.arcs.length) 0 n.arcs.length = val := by rw [hnet]; exact hq.bal.val
  have hrng : ∀ j, j < n.arcs.length → 0 ≤ nthI (flT bk n.arcs.length) j ∧ nthI (flT bk n.arcs.length) j ≤ (nthA n.arcs j).cap := fun j hj => by
    have h1 := hq.res.sum j hj
    have h2 := hq.res.fo0 j hj
    have h3 := hq.res.bk0 j hj
    rw [hf j hj]; omega
  have hmem : ∀ v : Nat, (v : Int) ∈ sdT lv V ↔ v < V ∧ 0 ≤ lv v := fun v => by
    rw [sdT_mem]
    constructor
    · rintro ⟨u, a, b, c⟩
      obtain rfl : v = u := by omega
      exact ⟨a, c⟩
    · rintro ⟨a, c⟩; exact ⟨v, a, rfl, c⟩
  have hs0 : setS (sdT lv V) 0 = true := setS_iff.2 ((hmem 0).2 ⟨by omega, by rw [hq.lev.zero]; omega⟩)
  have hs1 : setS (sdT lv V) (V - 1) = false := setS_no.2 fun hh => by have := ((hmem _).1 hh).2; have := hq.snk; omega
  have hcl := hq.lev.cls hq.snk
  have hed : ∀ i, i < n.arcs.length → 0 < fo i → EdR n fo bk (nthA n.arcs i).src.toNat (nthA n.arcs i).dst.toNat := fun i hi h0 => by
    obtain ⟨a, b, c, e, ha, hb0, hb, hab, hc⟩ := hn.arc i hi
    exact ⟨(i : Int), by rw [ixA_fo]; exact hi, by rw [tlA_fo, e]; rfl, by rw [hdA_fo, e]; rfl, by rw [rmA_fo]; exact h0⟩
  have heb : ∀ i, i < n.arcs.length → 0 < bk i → EdR n fo bk (nthA n.arcs i).dst.toNat (nthA n.arcs i).src.toNat := fun i hi h0 => by
    obtain ⟨a, b, c, e, ha, hb0, hb, hab, hc⟩ := hn.arc i hi
    exact ⟨-1 - (i : Int), by rw [ixA_bk]; exact hi, by rw [tlA_bk, e]; rfl, by rw [hdA_bk, e]; rfl, by rw [rmA_bk]; exact h0⟩
  have hlt : ∀ i, i < n.arcs.length → (nthA n.arcs i).src.toNat < V ∧ (nthA n.arcs i).dst.toNat < V := fun i hi => by
    obtain ⟨a, b, c, e, ha, hb0, hb, hab, hc⟩ := hn.arc i hi
    rw [e]
    exact ⟨by show ((a : Int)).toNat < V; omega, by show ((b : Int)).toNat < V; omega⟩
  have c1 : ∀ i, i < n.arcs.length → setS (sdT lv V) (nthA n.arcs i).src.toNat = true → setS (sdT lv V) (nthA n.arcs i).dst.toNat = false → ¬ 0 < fo i := fun i hi a b h0 => by
    rw [setS_iff, hmem] at a
    rw [setS_no, hmem] at b
    exact b ⟨(hlt i hi).2, hcl _ a.1 a.2 _ (hed i hi h0)⟩
  have c2 : ∀ i, i < n.arcs.length → setS (sdT lv V) (nthA n.arcs i).src.toNat = false → setS (sdT lv V) (nthA n.arcs i).dst.toNat = true → ¬ 0 < bk i := fun i hi a b h0 => by
    rw [setS_no, hmem] at a
    rw [setS_iff, hmem] at b
    exact a ⟨(hlt i hi).1, hcl _ b.1 b.2 _ (heb i hi h0)⟩
  have htop := hq.bal.bound hq.res hn
  refine ⟨flT_len _ _, valB_yes hch (flT_len _ _) (fun k hk => ?_) (fun v h1 h2 => ?_), hval, ?_, sdT_pair lv V, fun x hx => ?_, ?_, fun S h0 h1 => ?_, fun S h0 h1 hc v hv => ?_, fun j hj a b => ?_, fun j hj a b => ?_, hrng, hq.pos, htop⟩
  · unfold okF
    rw [Bool.and_eq_true, decide_eq_true_eq, decide_eq_true_eq]; exact hrng k hk
  · unfold okB
    rw [decide_eq_true_eq]
    exact hmid v h1 (by rw [hn.vs] at h2; omega)
  · have hr := riseTo_of (sdT_pair lv V)
    have hm0 : (0 : Int) ∈ sdT lv V := (hmem 0).2 ⟨by omega, by rw [hq.lev.zero]; omega⟩
    obtain ⟨i, hi, e⟩ := List.mem_iff_getElem.1 hm0
    have hp : 0 < (sdT lv V).length := by omega
    have hz : ∀ j, j < (sdT lv V).length → ∃ u : Nat, u < V - 1 ∧ nthI (sdT lv V) j = (u : Int) := fun j hj => by
      have hm : nthI (sdT lv V) j ∈ sdT lv V := by rw [nthI_get hj]; exact List.getElem_mem _
      obtain ⟨u, a, b, c⟩ := (sdT_mem lv).1 hm
      refine ⟨u, ?_, b⟩
      rcases Nat.lt_or_ge u (V - 1) with q | q
      · exact q
      · have : u = V - 1 := by omega
        subst this
        have := hq.snk; omega
    refine sideB_of hr hp ?_ ?_
    · obtain ⟨u, -, hu⟩ := hz 0 hp
      have hg := rise_ge hr (by omega) hi
      rw [nthI_get hi, e] at hg
      obtain rfl : i = 0 := by
        have : (i : Int) ≤ 0 := hg
        omega
      rw [nthI_get hi]; exact e
    · obtain ⟨u, h1, h2⟩ := hz ((sdT lv V).length - 1) (by omega)
      rw [h2, hn.vs]; omega
  · obtain ⟨v, a, b, -⟩ := (sdT_mem lv).1 hx
    exact ⟨v, a, b⟩
  · rw [← hval]
    exact (closed_tight hn hq.res hf hmid hs0 hs1 c1 c2).symm
  · rw [← hval]
    exact weak hn hrng hmid h0 h1
  · have hcut := cut_val (S := S) hn hmid h0 h1
    have h2 := out_le (n := n) (f := flT bk n.arcs.length) (S := S) fun j hj => (hrng j hj).2
    have h3 := in_ge (n := n) (f := flT bk n.arcs.length) (S := S) (k := n.arcs.length) fun j hj => (hrng j hj).1
    rw [hval] at hcut
    have ho := out_each (n := n) (f := flT bk n.arcs.length) (S := S) (fun j hj => (hrng j hj).2) (by omega)
    have hi := in_each (n := n) (f := flT bk n.arcs.length) (S := S) (fun j hj => (hrng j hj).1) (by omega)
    have hv2 := (hmem v).1 hv
    refine Chain.closed (D := fun u => S u = true) ?_ (hq.lev.chn v hv2.1 hv2.2) h0
    rintro u w hu ⟨z, z1, z2, z3, z4⟩ -
    rcases code_cases z with ⟨i, rfl, hz⟩ | ⟨i, rfl, hz⟩
    · rw [hz] at z1
      rw [tlA_fo] at z2
      rw [hdA_fo] at z3
      rw [rmA_fo] at z4
      rw [← Bool.not_eq_false]
      intro hw
      have := ho i z1 (by rw [z2]; exact hu) (by rw [z3]; exact hw)
      have hsum := hq.res.sum i z1
      rw [hf i z1] at this
      omega
    · rw [hz] at z1
      rw [tlA_bk] at z2
      rw [hdA_bk] at z3
      rw [rmA_bk] at z4
      rw [← Bool.not_eq_false]
      intro hw
      have := hi i z1 (by rw [z3]; exact hw) (by rw [z2]; exact hu)
      rw [hf i z1] at this
      omega
  · have h1 := c1 j hj a b
    have h2 := hq.res.sum j hj
    have h3 := hq.res.fo0 j hj
    rw [hf j hj]; omega
  · have h1 := c2 j hj a b
    have h3 := hq.res.bk0 j hj
    rw [hf j hj]; omega
section
variable {n : NetD} {V : Nat} {fl sd : List Int} {val : Int}
theorem Best.vF (h : Best n V fl val sd) : valF n fl = (val, 0) := by rw [valF_yes h.flow, h.vEq]
theorem Best.cF (h : Best n V fl val sd) (hn : NOk n V) (hch : chkN n = true) : capF n sd = (val, 0) := by
  unfold capF
  rw [if_pos hch, if_pos h.side, capTo_S hn sd (Nat.le_refl _), h.cEq]
theorem Best.stS (h : Best n V fl val sd) (hn : NOk n V) : setS sd 0 = true ∧ setS sd (V - 1) = false := side_S hn h.side
/-- no flow is greater -/
theorem Best.flow_le (h : Best n V fl val sd) (hn : NOk n V) (hch : chkN n = true) {f : List Int} (hf : valB n f = true) : (valF n f).1 ≤ val := by
  have := val_le_cap hf h.side
  rw [h.cF hn hch] at this
  exact this
/-- no side is less -/
theorem Best.side_ge (h : Best n V fl val sd) {s : List Int} (hs : sideB n s = true) : val ≤ (capF n s).1 := by
  have := val_le_cap h.flow hs
  rw [h.vF] at this
  exact this
/-- the same capacities give the same value and side -/
theorem Best.same {n' : NetD} {fl' sd' : List Int} {val' : Int} (h : Best n V fl val sd) (hn : NOk n V) (h' : Best n' V fl' val' sd') (hn' : NOk n' V) (hc : ∀ S : Nat → Bool, capS n S n.arcs.length = capS n' S n'.arcs.length) : val = val' ∧ sd = sd' := by
  obtain ⟨a, b⟩ := h.stS hn
  obtain ⟨a', b'⟩ := h'.stS hn'
  have e : val = val' := by
    have h1 := h.low _ a' b'
    have h2 := h'.low _ a b
    rw [hc, h'.cEq] at h1
    rw [← hc, h.cEq] at h2
    omega
  refine ⟨e, ?_⟩
  have m1 : ∀ x, x ∈ sd → x ∈ sd' := fun x hx => by
    obtain ⟨v, -, rfl⟩ := h.mem x hx
    exact setS_iff.1 (h.least _ a' b' (by rw [hc, h'.cEq, e]) v hx)
  have m2 : ∀ x, x ∈ sd' → x ∈ sd := fun x hx => by
    obtain ⟨v, -, rfl⟩ := h'.mem x hx
    exact setS_iff.1 (h'.least _ a b (by rw [← hc, h.cEq, e]) v hx)
  exact List.Perm.eq_of_pairwise (fun a b _ _ h1 h2 => absurd h1 (by omega)) h.rise h'.rise ((List.perm_ext_iff_of_nodup (h.rise.imp fun hh => by omega) (h'.rise.imp fun hh => by omega)).2 fun x => ⟨m1 x, m2 x⟩)
end
end Go.Proofs.Ytikddknhcfhnbaa
/- Paths of a flow. No program here. -/
namespace Go.Proofs.Ytikddknhcfhnbaa
/-- how many of the first k are not met -/
def cntF (B : Nat → Bool) : Nat → Nat
  | 0 => 0
  | k + 1 => cntF B k + if B k = true then 0 else 1
theorem cntF_le (B : Nat → Bool) : ∀ k, cntF B k ≤ k
  | 0 => Nat.le_refl _
  | k + 1 => by
    have := cntF_le B k
    unfold cntF
    split <;> omega
theorem cntF_mono {B B' : Nat → Bool} (h : ∀ u, B u = true → B' u = true) : ∀ k, cntF B' k ≤ cntF B k
  | 0 => Nat.le_refl _
  | k + 1 => by
    have ih := cntF_mono h k
    have hk := h k
    unfold cntF
    by_cases e : B k = true
    · rw [if_pos e, if_pos (hk e)]; omega
    · rw [if_neg e]; split <;> omega
theorem cntF_upd {B : Nat → Bool} {v : Nat} (h : B v = false) : ∀ {k : Nat}, (v < k → cntF (updV B v true) k + 1 = cntF B k) ∧ (k ≤ v → cntF (updV B v true) k = cntF B k)
  | 0 => ⟨fun hh => absurd hh (by omega), fun _ => rfl⟩
  | k + 1 => by
    obtain ⟨i1, i2⟩ := cntF_upd h (k := k)
    constructor
    · intro hv
      unfold cntF
      by_cases e : k = v
      · subst e
        rw [updV_same, if_pos rfl, h, if_neg (by decide), i2 (Nat.le_refl _)]
      · rw [updV_other e]
        have := i1 (by omega)
        omega
    · intro hv
      unfold cntF
      rw [updV_other (by omega), i2 (by omega)]
/-- a path to the last vertex by arcs of which something is left, beside the vertices met -/
inductive SP (n : NetD) (V : Nat) (lf : Nat → Int) : (Nat → Bool) → Nat → List Int → Prop
  | nil (B : Nat → Bool) : SP n V lf B (V - 1) []
  | cons {B : Nat → Bool} {v i w : Nat} {p : List Int} (hi : i < n.arcs.length) (hs : (nthA n.arcs i).src = (v : Int)) (hd : (nthA n.arcs i).dst = (w : Int)) (h0 : 0 < lf i) (hB : B w = false) (hw : w ≠ v) (r : SP n V lf (updV B v true) w p) : SP n V lf B v ((i : Int) :: p)
section
variable {n : NetD} {V : Nat} {lf : Nat → Int}
theorem SP.anti {B' : Nat → Bool} {v : Nat} {p : List Int} (h : SP n V lf B' v p) : ∀ {B : Nat → Bool}, (∀ u, B u = true → B' u = true) → SP n V lf B v p := by
  induction h with
  | nil => exact fun _ => .nil _
  | @cons B' v i w p hi hs hd h0 hB hw r ih =>
    intro B hh
    refine .cons hi hs hd h0 ?_ hw (ih fun u hu => ?_)
    · rw [← Bool.not_eq_true]
      intro hb
      rw [hh w hb] at hB
      cases hB
    · by_cases e : u = v
      · subst e; rw [updV_same]
      · rw [updV_other e] at hu ⊢
        exact hh u hu
theorem SP.src {B : Nat → Bool} {v : Nat} {p : List Int} (h : SP n V lf B v p) : B v = false → ∀ x ∈ p, ∃ i u : Nat, x = (i : Int) ∧ i < n.arcs.length ∧ (nthA n.arcs i).src = (u : Int) ∧ B u = false ∧ 0 < lf i := by
  induction h with
  | nil => exact fun _ x hx => absurd hx List.not_mem_nil
  | @cons B v i w p hi hs hd h0 hB hw r ih =>
    intro hv x hx
    rcases List.mem_cons.1 hx with rfl | hx
    · exact ⟨i, v, rfl, hi, hs, hv, h0⟩
    · obtain ⟨j, u, a, b, c, d, e⟩ := ih (by rw [updV_other hw]; exact hB) x hx
      refine ⟨j, u, a, b, c, ?_, e⟩
      by_cases q : u = v
      · subst q; rw [updV_same] at d; cases d
      · rwa [updV_other q] at d
theorem SP.nodup {B : Nat → Bool} {v : Nat} {p : List Int} (h : SP n V lf B v p) : B v = false → p.Nodup := by
  induction h with
  | nil => exact fun _ => List.nodup_nil
  | @cons B v i w p hi hs hd h0 hB hw r ih =>
    intro hv
    have hwB : updV B v true w = false := by rw [updV_other hw]; exact hB
    rw [List.nodup_cons]
    refine ⟨fun hm => ?_, ih hwB⟩
    obtain ⟨j, u, a, b, c, d, e⟩ := r.src hwB _ hm
    obtain rfl : i = j := by omega
    rw [hs] at c
    obtain rfl : v = u := by omega
    rw [updV_same] at d
    cases d
theorem SP.len (hn : NOk n V) {B : Nat → Bool} {v : Nat} {p : List Int} (h : SP n V lf B v p) : B v = false → p.length ≤ cntF B V := by
  induction h with
  | nil => exact fun _ => Nat.zero_le _
  | @cons B v i w p hi hs hd h0 hB hw r ih =>
    intro hv
    have := ih (by rw [updV_other hw]; exact hB)
    obtain ⟨a, b, c, e, ha, -⟩ := hn.arc i hi
    rw [e] at hs
    have hs : (a : Int) = (v : Int) := hs
    have := (cntF_upd hv (k := V)).1 (by omega)
    rw [List.length_cons]; omega
theorem SP.ne {B : Nat → Bool} {v : Nat} {p : List Int} (h : SP n V lf B v p) (hv : v ≠ V - 1) : p ≠ [] := by
  cases h with
  | nil => exact absurd rfl hv
  | cons => exact List.cons_ne_nil _ _
/-- follow on its way at v: what was tried led nowhere -/
structure FolL (n : NetD) (V : Nat) (lf : Nat → Int) (v : Nat) (B B' : Nat → Bool) (t : Int → Prop) : Prop where
  mono : ∀ u, B u = true → B' u = true
  own : B' v = true
  cls : ∀ u, u < V → B' u = true → B u = false → u ≠ v → ∀ i, i < n.arcs.length → (nthA n.arcs i).src = (u : Int) → 0 < lf i → B' (nthA n.arcs i).dst.toNat = true
  tri : ∀ i, i < n.arcs.length → (nthA n.arcs i).src = (v : Int) → 0 < lf i → t (i : Int) → B' (nthA n.arcs i).dst.toNat = true
  snk : B' (V - 1) = false
/-- follow led nowhere -/
structure FolN (n : NetD) (V : Nat) (lf : Nat → Int) (v : Nat) (B B' : Nat → Bool) : Prop where
  mono : ∀ u, B u = true → B' u = true
  own : B' v = true
  cls : ∀ u, u < V → B' u = true → B u = false → ∀ i, i < n.arcs.length → (nthA n.arcs i).src = (u : Int) → 0 < lf i → B' (nthA n.arcs i).dst.toNat = true
  snk : B' (V - 1) = false
theorem FolL.start {v : Nat} {B : Nat → Bool} {t : Int → Prop} (hs : B (V - 1) = false) (hv : v ≠ V - 1) (ht : ∀ x, ¬ t x) : FolL n V lf v B (updV B v true) t := by
  refine ⟨fun u hu => ?_, updV_same _ _ _, fun u _ hu hb hne => ?_, fun i _ _ _ h => absurd h (ht _), ?_⟩
  · by_cases e : u = v
    · subst e; rw [updV_same]
    · rw [updV_other e]; exact hu
  · rw [updV_other hne, hb] at hu; cases hu
  · rw [updV_other fun e => hv e.symm]; exact hs
theorem FolL.skip {v : Nat} {B B' : Nat → Bool} {t t' : Int → Prop} (h : FolL n V lf v B B' t) {j : Nat} (ht : ∀ x, t' x → t x ∨ x = (j : Int)) (hj : 0 < lf j → B' (nthA n.arcs j).dst.toNat = true) : FolL n V lf v B B' t' := by
  refine ⟨h.mono, h.own, h.cls, fun i hi hs h0 hx => ?_, h.snk⟩
  rcases ht _ hx with a | a
  · exact h.tri i hi hs h0 a
  · obtain rfl : i = j := by omega
    exact hj h0
theorem FolL.deep {v w : Nat} {B B' B'' : Nat → Bool} {t t' : Int → Prop} (h : FolL n V lf v B B' t) {j : Nat} (ht : ∀ x, t' x → t x ∨ x = (j : Int)) (hj : (nthA n.arcs j).dst = (w : Int)) (hr : FolN n V lf w B' B'') : FolL n V lf v B B'' t' := by
  refine ⟨fun u hu => hr.mono u (h.mono u hu), hr.mono v h.own, fun u huV hu hb hne i hi hs h0 => ?_, fun i hi hs h0 hx => ?_, hr.snk⟩
  · cases hB : B' u
    · exact hr.cls u huV hu hB i hi hs h0
    · exact hr.mono _ (h.cls u huV hB hb hne i hi hs h0)
  · rcases ht _ hx with a | a
    · exact hr.mono _ (h.tri i hi hs h0 a)
    · obtain rfl : i = j := by omega
      rw [hj, Int.toNat_natCast]
      exact hr.own
theorem FolL.fin {v : Nat} {B B' : Nat → Bool} {t : Int → Prop} (h : FolL n V lf v B B' t) (ht : ∀ i, i < n.arcs.length → (nthA n.arcs i).src = (v : Int) → t (i : Int)) : FolN n V lf v B B' := by
  refine ⟨h.mono, h.own, fun u huV hu hb i hi hs h0 => ?_, h.snk⟩
  by_cases e : u = v
  · subst e; exact h.tri i hi hs h0 (ht i hi hs)
  · exact h.cls u huV hu hb e i hi hs h0
/-- what is left of a flow -/
structure LfP (n : NetD) (V : Nat) (f : List Int) (lf : Nat → Int) (val : Int) : Prop where
  rng : ∀ i, i < n.arcs.length → 0 ≤ lf i ∧ lf i ≤ nthI f i
  mid : ∀ v : Nat, 1 ≤ v → v + 1 < V → netB n lf (v : Int) n.arcs.length = 0
  vEq : netB n lf 0 n.arcs.length = val
  pos : 0 ≤ val
/-- with something left, follow finds a path -/
theorem LfP.found {f : List Int} {val : Int} (h : LfP n V f lf val) (hn : NOk n V) (h0 : 0 < val) {B : Nat → Bool} (hr : FolN n V lf 0 (fun _ => false) B) : False := by
  have hf : ∀ i, i < n.arcs.length → nthI (flT lf n.arcs.length) i = lf i := fun i hi => flT_at lf hi
  have hnet : ∀ v : Int, netF n (flT lf n.arcs.length) v n.arcs.length = netB n lf v n.arcs.length := fun v => by rw [netF_B]; exact netB_congr hf
  have hcut := cut_val (f := flT lf n.arcs.length) (S := B) hn (fun v h1 h2 => by rw [hnet]; exact h.mid v h1 h2) hr.own hr.snk
  rw [hnet, h.vEq] at hcut
  have hin := in_ge (n := n) (f := flT lf n.arcs.length) (S := B) (k := n.arcs.length) fun j hj => by rw [hf j hj]; exact (h.rng j hj).1
  have hout : ∀ k, k ≤ n.arcs.length → outF n (flT lf n.arcs.length) B k ≤ 0 := by
    intro k
    induction k with
    | zero => exact fun _ => Int.le_refl _
    | succ k ih =>
      intro hk
      have := ih (by omega)
      unfold outF
      split
      · next e =>
        rw [Bool.and_eq_true, Bool.not_eq_true'] at e
        obtain ⟨a, b, c, ea, ha, -⟩ := hn.arc k hk
        have hs : (nthA n.arcs k).src = (((nthA n.arcs k).src.toNat : Nat) : Int) := by rw [ea]; show (a : Int) = ((a : Int).toNat : Int); omega
        have hlt : (nthA n.arcs k).src.toNat < V := by rw [ea]; show (a : Int).toNat < V; omega
        rw [hf k hk]
        rcases Int.lt_or_le 0 (lf k) with q | q
        · have := hr.cls _ hlt e.1 rfl k hk hs q
          rw [e.2] at this
          cases this
        · omega
      · omega
  have := hout _ (Nat.le_refl _)
  omega
end
/-- an amount less on each arc of a list -/
def subL (lf : Nat → Int) (a : Int) : List Int → (Nat → Int)
  | [] => lf
  | x :: p => subL (updI lf x.toNat (lf x.toNat - a)) a p
theorem subL_snoc (a x : Int) : ∀ (p : List Int) (lf : Nat → Int), subL lf a (p ++ [x]) = updI (subL lf a p) x.toNat (subL lf a p x.toNat - a)
  | [], _ => rfl
  | y :: p, lf => subL_snoc a x p (updI lf y.toNat (lf y.toNat - a))
theorem subL_not {a : Int} {i : Nat} : ∀ {p : List Int} {lf : Nat → Int}, (∀ x ∈ p, x.toNat ≠ i) → subL lf a p i = lf i
  | [], _, _ => rfl
  | x :: p, lf, h => by
    unfold subL
    rw [subL_not fun y hy => h y (List.mem_cons_of_mem _ hy), updI_other fun e => h x List.mem_cons_self e.symm]
theorem subL_in {a : Int} {i : Nat} : ∀ {p : List Int} {lf : Nat → Int}, p.Nodup → (∀ x ∈ p, 0 ≤ x) → (i : Int) ∈ p → subL lf a p i = lf i - a
  | [], _, _, _, h => absurd h List.not_mem_nil
  | x :: p, lf, hd, h0, h => by
    rw [List.nodup_cons] at hd
    unfold subL
    rcases List.mem_cons.1 h with e | e
    · subst e
      rw [subL_not fun y hy e => hd.1 (by have := h0 y (List.mem_cons_of_mem _ hy); rwa [show (i : Int) = y by omega]), Int.toNat_natCast, updI_same]
    · rw [subL_in hd.2 (fun y hy => h0 y (List.mem_cons_of_mem _ hy)) e, updI_other]
      intro q
      have := h0 x List.mem_cons_self
      refine hd.1 ?_
      rwa [show x = (i : Int) by omega]
section
variable {n : NetD} {V : Nat} {lf : Nat → Int}
/-- the balances when an amount goes along a path no more -/
theorem SP.bal (a : Int) {B : Nat → Bool} {v : Nat} {p : List Int} (h : SP n V lf B v p) (y : Int) : ∀ g : Nat → Int, netB n (subL g a p) y n.arcs.length = netB n g y n.arcs.length - (if (v : Int) = y then a else 0) + (if ((V - 1 : Nat) : Int) = y then a else 0) := by
  induction h with
  | nil => intro g; unfold subL; omega
  | @cons B v i w p hi hs hd h0 hB hw r ih =>
    intro g
    unfold subL
    rw [ih, Int.toNat_natCast, show g i - a = g i + (-a) by omega, netB_upd hi, hs, hd]
    split <;> split <;> split <;> omega
/-- a path of the list of paths, all that is left considered -/
structure StepP (n : NetD) (V : Nat) (lf : Nat → Int) (val : Int) (p : List Int) (a : Int) : Prop where
  sp : SP n V lf (fun _ => false) 0 p
  lo : 1 ≤ a
  hi : a ≤ val
  each : ∀ x ∈ p, a ≤ lf x.toNat
theorem StepP.left {f : List Int} {val a : Int} {p : List Int} (h : StepP n V lf val p a) (hl : LfP n V f lf val) (hn : NOk n V) : LfP n V f (subL lf a p) (val - a) := by
  have hsrc := h.sp.src rfl
  have hnd := h.sp.nodup rfl
  have hp0 : ∀ x ∈ p, 0 ≤ x := fun x hx => by obtain ⟨i, -, e, -⟩ := hsrc x hx; omega
  have hV := hn.lo
  have := h.lo
  refine ⟨fun i hi => ?_, fun v h1 h2 => ?_, ?_, by have := h.hi; omega⟩
  · have := hl.rng i hi
    by_cases e : (i : Int) ∈ p
    · rw [subL_in hnd hp0 e]
      have := h.each _ e
      rw [Int.toNat_natCast] at this
      omega
    · rw [subL_not fun x hx q => e (by have := hp0 x hx; rwa [show (i : Int) = x by omega])]
      exact this
  · rw [h.sp.bal, hl.mid v h1 h2, if_neg (by omega), if_neg (by omega)]; rfl
  · rw [h.sp.bal, hl.vEq, if_pos (by omega), if_neg (by omega)]; omega
/-- how many of the first k arcs have something left -/
def cntP (lf : Nat → Int) : Nat → Nat
  | 0 => 0
  | k + 1 => cntP lf k + if 0 < lf k then 1 else 0
theorem cntP_le (lf : Nat → Int) : ∀ k, cntP lf k ≤ k
  | 0 => Nat.le_refl _
  | k + 1 => by
    have := cntP_le lf k
    unfold cntP
    split <;> omega
theorem cntP_mono {lf lf' : Nat → Int} : ∀ {k : Nat}, (∀ i, i < k → lf' i ≤ lf i) → cntP lf' k ≤ cntP lf k
  | 0, _ => Nat.le_refl _
  | k + 1, h => by
    have ih := cntP_mono (k := k) fun i hi => h i (by omega)
    have := h k (by omega)
    unfold cntP
    split <;> split <;> omega
theorem cntP_lt {lf lf' : Nat → Int} {j : Nat} : ∀ {k : Nat}, (∀ i, i < k → lf' i ≤ lf i) → j < k → 0 < lf j → lf' j ≤ 0 → cntP lf' k + 1 ≤ cntP lf k
  | 0, _, h, _, _ => absurd h (by omega)
  | k + 1, h, hj, h0, h1 => by
    have hk := h k (by omega)
    unfold cntP
    by_cases e : j = k
    · subst e
      have := cntP_mono (k := j) fun i hi => h i (by omega)
      rw [if_pos h0, if_neg (by omega)]; omega
    · have := cntP_lt (k := k) (fun i hi => h i (by omega)) (by omega) h0 h1
      split <;> split <;> omega
theorem StepP.cnt {f : List Int} {val a : Int} {p : List Int} (h : StepP n V lf val p a) (hl : LfP n V f lf val) (hn : NOk n V) (he : a < val → ∃ x ∈ p, lf x.toNat = a) : (val - a = 0 ∧ 1 ≤ cntP lf n.arcs.length) ∨ cntP (subL lf a p) n.arcs.length + 1 ≤ cntP lf n.arcs.length := by
  have hsrc := h.sp.src rfl
  have hnd := h.sp.nodup rfl
  have hp0 : ∀ x ∈ p, 0 ≤ x := fun x hx => by obtain ⟨i, -, e, -⟩ := hsrc x hx; omega
  have hV := hn.lo
  have h1 := h.lo
  have h2 := h.hi
  by_cases q : a < val
  · right
    obtain ⟨x, hx, e⟩ := he q
    obtain ⟨i, u, rfl, hi, -, -, h0⟩ := hsrc x hx
    rw [Int.toNat_natCast] at e
    refine cntP_lt (j := i) (fun j hj => ?_) hi h0 ?_
    · by_cases e : (j : Int) ∈ p
      · rw [subL_in hnd hp0 e]; omega
      · rw [subL_not fun x hx q => e (by have := hp0 x hx; rwa [show (j : Int) = x by omega])]
        exact Int.le_refl _
    · rw [subL_in hnd hp0 hx]; omega
  · left
    refine ⟨by omega, ?_⟩
    obtain ⟨x, hx⟩ := List.exists_mem_of_ne_nil _ (h.sp.ne (by omega))
    obtain ⟨i, u, rfl, hi, -, -, h0⟩ := hsrc x hx
    have hz : cntP (fun _ => 0) n.arcs.length = 0 := by
      have : ∀ k, cntP (fun _ => 0) k = 0 := fun k => by
        induction k with
        | zero => rfl
        | succ k ih => unfold cntP; rw [ih, if_neg (by decide)]
      exact this _
    have := cntP_lt (lf := fun j => if j = i then lf i else 0) (lf' := fun _ => 0) (j := i) (k := n.arcs.length) (fun j _ => by split <;> omega) hi (by rw [if_pos rfl]; exact h0) (Int.le_refl _)
    have h3 := cntP_mono (lf := lf) (lf' := fun j => if j = i then lf i else 0) (k := n.arcs.length) fun j hj => by
      have := (hl.rng j hj).1
      split
      · next e => subst e; exact Int.le_refl _
      · exact this
    omega
end
/-- what Paths answers: L and W are what is left after each path -/
structure PathsP (n : NetD) (V : Nat) (f : List Int) (ps : List (List Int)) (am : List Int) (L : Nat → Nat → Int) (W : Nat → Int) : Prop where
  len : am.length = ps.length
  l0 : L 0 = nthI f
  left : ∀ k, k ≤ ps.length → LfP n V f (L k) (W k)
  step : ∀ k, k < ps.length → StepP n V (L k) (W k) (ps.getD k []) (nthI am k)
  lS : ∀ k, k < ps.length → L (k + 1) = subL (L k) (nthI am k) (ps.getD k [])
  wS : ∀ k, k < ps.length → W (k + 1) = W k - nthI am k
theorem PathsP.start {n : NetD} {V : Nat} {f : List Int} {val : Int} (h : LfP n V f (nthI f) val) : PathsP n V f [] [] (fun _ => nthI f) (fun _ => val) :=
  ⟨rfl, rfl, fun _ _ => h, fun _ h => absurd h (Nat.not_lt_zero _), fun _ h => absurd h (Nat.not_lt_zero _), fun _ h => absurd h (Nat.not_lt_zero _)⟩
theorem nthI_app_l {l m : List Int} {k : Nat} (h : k < l.length) : nthI (l ++ m) k = nthI l k := by
  unfold nthI; rw [List.getD_eq_getElem?_getD, List.getD_eq_getElem?_getD, List.getElem?_append_left h]
theorem nthI_app_r {l : List Int} {x : Int} {k : Nat} (h : k = l.length) : nthI (l ++ [x]) k = x := by
  subst h
  unfold nthI; rw [List.getD_eq_getElem?_getD, List.getElem?_append_right (Nat.le_refl _), Nat.sub_self]; rfl
theorem getD_app_l {l m : List (List Int)} {k : Nat} (h : k < l.length) : (l ++ m).getD k [] = l.getD k [] := by
  rw [List.getD_eq_getElem?_getD, List.getD_eq_getElem?_getD, List.getElem?_append_left h]
theorem getD_app_r {l : List (List Int)} {x : List Int} {k : Nat} (h : k = l.length) : (l ++ [x]).getD k [] = x := by
  subst h
  rw [List.getD_eq_getElem?_getD, List.getElem?_append_right (Nat.le_refl _), Nat.sub_self]; rfl
theorem PathsP.snoc {n : NetD} {V : Nat} {f : List Int} {ps : List (List Int)} {am : List Int} {L : Nat → Nat → Int} {W : Nat → Int} (h : PathsP n V f ps am L W) (hn : NOk n V) {p : List Int} {a : Int} (hs : StepP n V (L ps.length) (W ps.length) p a) :
    PathsP n V f (ps ++ [p]) (am ++ [a]) (updV L (ps.length + 1) (subL (L ps.length) a p)) (updV W (ps.length + 1) (W ps.length - a)) := by
  have hl : (ps ++ [p]).length = ps.length + 1 := by rw [List.length_append]; rfl
  refine ⟨by rw [hl, List.length_append, h.len]; rfl, ?_, fun k hk => ?_, fun k hk => ?_, fun k hk => ?_, fun k hk => ?_⟩
  · rw [updV_other (by omega)]; exact h.l0
  · by_cases e : k = ps.length + 1
    · subst e; rw [updV_same, updV_same]; exact hs.left (h.left _ (Nat.le_refl _)) hn
    · rw [updV_other e, updV_other e]; exact h.left k (by omega)
  · rw [updV_other (show k ≠ ps.length + 1 by omega), updV_other (show k ≠ ps.length + 1 by omega)]
    by_cases e : k = ps.length
    · subst e; rw [getD_app_r rfl, nthI_app_r h.len.symm]; exact hs
    · rw [getD_app_l (by omega), nthI_app_l (by rw [h.len]; omega)]; exact h.step k (by omega)
  · rw [updV_other (show k ≠ ps.length + 1 by omega)]
    by_cases e : k = ps.length
    · subst e; rw [getD_app_r rfl, nthI_app_r h.len.symm, updV_same]
    · rw [getD_app_l (by omega), nthI_app_l (by rw [h.len]; omega), updV_other (by omega)]; exact h.lS k (by omega)
  · rw [updV_other (show k ≠ ps.length + 1 by omega)]
    by_cases e : k = ps.length
    · subst e; rw [nthI_app_r h.len.symm, updV_same]
    · rw [nthI_app_l (by rw [h.len]; omega), updV_other (by omega)]; exact h.wS k (by omega)
end Go.Proofs.Ytikddknhcfhnbaa
/- What the reference's Paths and Least compute: a path walked arc by arc; the least sides by masks. -/
namespace Go.Proofs.Ytikddknhcfhnbaa
/-- a path walked to its arc number k: at v, the vertices met in a list -/
structure WalkS (n : NetD) (V : Nat) (lf : Nat → Int) (p : List Int) (k v : Nat) (B : Nat → Bool) (vis : List Int) : Prop where
  sp : SP n V lf B v (p.drop k)
  met : ∀ u : Nat, vis.contains (u : Int) = true ↔ (B u = true ∨ u = v)
  len : vis.length = k + 1
  nv : B v = false
section
variable {n : NetD} {V : Nat} {lf : Nat → Int} {p : List Int} {k v : Nat} {B : Nat → Bool} {vis : List Int}
theorem WalkS.start (h : SP n V lf (fun _ => false) 0 p) : WalkS n V lf p 0 0 (fun _ => false) [0] :=
  ⟨h, fun u => by simp, rfl, rfl⟩
theorem WalkS.next (h : WalkS n V lf p k v B vis) (hk : k < p.length) : ∃ i w : Nat, nthI p k = (i : Int) ∧ i < n.arcs.length ∧ (nthA n.arcs i).src = (v : Int) ∧ (nthA n.arcs i).dst = (w : Int) ∧ vis.contains (w : Int) = false ∧ 0 < lf i ∧ WalkS n V lf p (k + 1) w (updV B v true) (vis ++ [(w : Int)]) := by
  have e := h.sp
  rw [List.drop_eq_getElem_cons hk] at e
  have hq := (nthI_get hk).symm
  obtain ⟨x, hx⟩ : ∃ x, x = p[k] := ⟨_, rfl⟩
  rw [← hx] at e hq
  clear hx
  cases e with
  | @cons _ _ i w _ hi hs hd h0 hB hw r =>
    refine ⟨i, w, hq.symm, hi, hs, hd, ?_, h0, ?_⟩
    · rw [Bool.eq_false_iff]
      intro h1
      rcases (h.met w).1 h1 with h2 | h2
      · rw [hB] at h2; cases h2
      · exact hw h2
    · refine ⟨r, fun u => ?_, by simp [h.len], by rw [updV_other hw]; exact hB⟩
      have h1 := h.met u
      unfold updV
      by_cases e : u = v
      · subst e; simp at h1 ⊢; simp [h1]
      · rw [if_neg e]
        simp at h1 ⊢
        rw [h1]
        constructor
        · rintro ((a | a) | a)
          · exact .inl a
          · exact absurd a e
          · exact .inr (by omega)
        · rintro (a | a)
          · exact .inl (.inl a)
          · exact .inr (by omega)
theorem WalkS.fin (h : WalkS n V lf p k v B vis) (hk : k = p.length) : v = V - 1 := by
  have e := h.sp
  rw [hk, List.drop_length] at e
  cases e; rfl
end
theorem take_ne {p : List Int} (hn : p.Nodup) {k : Nat} (hk : k < p.length) : ∀ x ∈ p.take k, x ≠ nthI p k := by
  intro x hx
  have e : p.take k ++ p.drop k = p := List.take_append_drop k p
  rw [← e, List.nodup_append] at hn
  refine hn.2.2 x hx (nthI p k) ?_
  rw [List.drop_eq_getElem_cons hk, nthI_get hk]
  exact List.mem_cons_self
theorem take_snoc {p : List Int} {k : Nat} (hk : k < p.length) : p.take (k + 1) = p.take k ++ [nthI p k] := by
  rw [List.take_succ_eq_append_getElem hk, nthI_get hk]
/-- what is left of arc number k of a path when the arcs before it are done -/
theorem subL_take {n : NetD} {V : Nat} {lf : Nat → Int} {p : List Int} (h : SP n V lf (fun _ => false) 0 p) (a : Int) {k i : Nat} (hk : k < p.length) (hi : nthI p k = (i : Int)) : subL lf a (p.take k) i = lf i := by
  refine subL_not fun x hx e => take_ne (h.nodup rfl) hk x hx ?_
  obtain ⟨j, u, hj, -⟩ := h.src rfl x (List.mem_of_mem_take hx)
  rw [hi, hj]; rw [hj] at e; omega
theorem subL_next {lf : Nat → Int} {p : List Int} {a : Int} {k i : Nat} (hk : k < p.length) (hi : nthI p k = (i : Int)) (j : Nat) : subL lf a (p.take (k + 1)) j = if j = i then subL lf a (p.take k) i - a else subL lf a (p.take k) j := by
  rw [take_snoc hk, subL_snoc, hi, Int.toNat_natCast]; rfl
/-- the side of a mask, by the first j inner vertices -/
def sideL (m : Nat) : Nat → List Int
  | 0 => [0]
  | j + 1 => sideL m j ++ if m.testBit j then [((j + 1 : Nat) : Int)] else []
theorem sideL_len (m : Nat) : ∀ j, 1 ≤ (sideL m j).length ∧ (sideL m j).length ≤ j + 1
  | 0 => ⟨Nat.le_refl _, Nat.le_refl _⟩
  | j + 1 => by
    have := sideL_len m j
    unfold sideL
    split <;> simp <;> omega
theorem sideL_mem {m : Nat} {x : Int} : ∀ {j : Nat}, x ∈ sideL m j ↔ x = 0 ∨ ∃ t : Nat, t < j ∧ x = ((t + 1 : Nat) : Int) ∧ m.testBit t = true
  | 0 => by simp [sideL]
  | j + 1 => by
    unfold sideL
    rw [List.mem_append, sideL_mem]
    constructor
    · rintro ((h | ⟨t, h1, h2, h3⟩) | h)
      · exact .inl h
      · exact .inr ⟨t, by omega, h2, h3⟩
      · by_cases e : m.testBit j = true
        · rw [if_pos e, List.mem_singleton] at h
          exact .inr ⟨j, by omega, h, e⟩
        · rw [if_neg e] at h; cases h
    · rintro (h | ⟨t, h1, h2, h3⟩)
      · exact .inl (.inl h)
      · rcases Nat.lt_or_ge t j with q | q
        · exact .inl (.inr ⟨t, q, h2, h3⟩)
        · obtain rfl : t = j := by omega
          rw [if_pos h3, List.mem_singleton]; exact .inr h2
theorem sideL_rise (m : Nat) : ∀ j, (sideL m j).Pairwise (· < ·)
  | 0 => List.pairwise_singleton _ _
  | j + 1 => by
    unfold sideL
    rw [List.pairwise_append]
    refine ⟨sideL_rise m j, ?_, fun x hx y hy => ?_⟩
    · split
      · exact List.pairwise_singleton _ _
      · exact List.Pairwise.nil
    · split at hy
      · rw [List.mem_singleton] at hy
        rcases sideL_mem.1 hx with h | ⟨t, h1, h2, -⟩ <;> omega
      · cases hy
theorem sideL_head (m : Nat) : ∀ j, nthI (sideL m j) 0 = 0
  | 0 => rfl
  | j + 1 => by
    have h := sideL_len m j
    unfold sideL
    rw [nthI_app_l (by omega)]
    exact sideL_head m j
theorem sideL_side {n : NetD} {V : Nat} (hn : NOk n V) (m : Nat) : sideB n (sideL m (V - 2)) = true := by
  have h := sideL_len m (V - 2)
  have h2 := hn.lo
  have hv := hn.vs
  refine sideB_of (riseTo_of (sideL_rise m _)) (by omega) (sideL_head m _) ?_
  have hl : nthI (sideL m (V - 2)) ((sideL m (V - 2)).length - 1) ∈ sideL m (V - 2) := by
    rw [nthI_get (by omega)]; exact List.getElem_mem (by omega)
  rcases sideL_mem.1 hl with e | ⟨t, h3, e, -⟩ <;> rw [e, hv] <;> omega
/-- the mask of a set -/
def maskS (S : Nat → Bool) : Nat → Nat
  | 0 => 0
  | j + 1 => (if S (j + 1) then 2 ^ j else 0) + maskS S j
theorem maskS_lt (S : Nat → Bool) : ∀ j, maskS S j < 2 ^ j
  | 0 => by simp [maskS]
  | j + 1 => by
    have := maskS_lt S j
    unfold maskS
    rw [Nat.pow_succ]
    split <;> omega
theorem maskS_bit (S : Nat → Bool) {t : Nat} : ∀ {j : Nat}, t < j → (maskS S j).testBit t = S (t + 1)
  | 0, h => absurd h (by omega)
  | j + 1, h => by
    unfold maskS
    have hlt := maskS_lt S j
    rcases Nat.lt_or_ge t j with q | q
    · cases e : S (j + 1)
      · simp; exact maskS_bit S q
      · simp only [if_true]
        rw [Nat.testBit_two_pow_add_gt q]
        exact maskS_bit S q
    · obtain rfl : t = j := by omega
      cases e : S (t + 1)
      · simp; exact Nat.testBit_lt_two_pow hlt
      · simp only [if_true]
        rw [Nat.testBit_two_pow_add_eq, Nat.testBit_lt_two_pow hlt]; rfl
/-- a rising list of inner vertices that holds 0 is the side of a mask -/
theorem rise_ext : ∀ {a b : List Int}, a.Pairwise (· < ·) → b.Pairwise (· < ·) → (∀ x, x ∈ a ↔ x ∈ b) → a = b
  | [], [], _, _, _ => rfl
  | [], y :: b, _, _, h => absurd ((h y).2 List.mem_cons_self) List.not_mem_nil
  | x :: a, [], _, _, h => absurd ((h x).1 List.mem_cons_self) List.not_mem_nil
  | x :: a, y :: b, ha, hb, h => by
    rw [List.pairwise_cons] at ha hb
    have h1 : x = y := by
      rcases List.mem_cons.1 ((h x).1 List.mem_cons_self) with e | e
      · exact e
      · rcases List.mem_cons.1 ((h y).2 List.mem_cons_self) with f | f
        · exact f.symm
        · have := hb.1 x e; have := ha.1 y f; omega
    subst h1
    congr 1
    refine rise_ext ha.2 hb.2 fun z => ?_
    constructor
    · intro hz
      rcases List.mem_cons.1 ((h z).1 (List.mem_cons_of_mem _ hz)) with e | e
      · have := ha.1 z hz; omega
      · exact e
    · intro hz
      rcases List.mem_cons.1 ((h z).2 (List.mem_cons_of_mem _ hz)) with e | e
      · have := hb.1 z hz; omega
      · exact e
theorem Best.mask {n : NetD} {V : Nat} {fl sd : List Int} {val : Int} (h : Best n V fl val sd) (hn : NOk n V) : sideL (maskS (setS sd) (V - 2)) (V - 2) = sd := by
  refine rise_ext (sideL_rise _ _) h.rise fun x => ?_
  have hs := h.stS hn
  have hlo := hn.lo
  rw [sideL_mem]
  constructor
  · rintro (e | ⟨t, h1, e, h2⟩)
    · rw [e]; exact setS_iff.1 hs.1
    · rw [maskS_bit _ h1] at h2
      rw [e]; exact setS_iff.1 h2
  · intro hx
    obtain ⟨v, hv, rfl⟩ := h.mem x hx
    rcases Nat.eq_zero_or_pos v with e | e
    · exact .inl (by omega)
    · refine .inr ⟨v - 1, ?_, by omega, ?_⟩
      · rcases Nat.lt_or_ge (v - 1) (V - 2) with q | q
        · exact q
        · have e2 : v = V - 1 := by omega
          rw [e2] at hx
          have := setS_iff.2 hx
          rw [hs.2] at this; cases this
      · have hlt : v - 1 < V - 2 := by
          rcases Nat.lt_or_ge (v - 1) (V - 2) with q | q
          · exact q
          · have e2 : v = V - 1 := by omega
            rw [e2] at hx
            have := setS_iff.2 hx
            rw [hs.2] at this; cases this
        rw [maskS_bit _ hlt, show v - 1 + 1 = v by omega]
        exact setS_iff.2 hx
/-- the capacity of a mask's side -/
def capM (n : NetD) (V m : Nat) : Int := (capF n (sideL m (V - 2))).1
/-- Least after the first m masks -/
structure LeastI (n : NetD) (V m : Nat) (best : Int) (c : List Int) : Prop where
  zero : m = 0 → best = -1 ∧ c = []
  at_ : 0 < m → ∃ m0, m0 < m ∧ capM n V m0 = best
  low : ∀ k, k < m → best ≤ capM n V k
  rise : c.Pairwise (· < ·)
  mem : 0 < m → ∀ x, x ∈ c ↔ ∀ k, k < m → capM n V k = best → x ∈ sideL k (V - 2)
  nonneg : 0 < m → 0 ≤ best
  len : c.length ≤ V
section
variable {n : NetD} {V m : Nat} {best : Int} {c : List Int}
theorem LeastI.start (n : NetD) (V : Nat) : LeastI n V 0 (-1) [] :=
  ⟨fun _ => ⟨rfl, rfl⟩, fun h => absurd h (by omega), fun _ h => absurd h (by omega), List.Pairwise.nil, fun h => absurd h (by omega), fun h => absurd h (by omega), Nat.zero_le _⟩
theorem LeastI.less (h : LeastI n V m best c) (hn : NOk n V) (h0 : 0 ≤ capM n V m) (hc : best < 0 ∨ capM n V m < best) : LeastI n V (m + 1) (capM n V m) (sideL m (V - 2)) := by
  have hall : ∀ k, k < m → capM n V m < capM n V k := by
    intro k hk
    rcases hc with e | e
    · have := h.nonneg (by omega); omega
    · have := h.low k hk; omega
  refine ⟨fun e => absurd e (by omega), fun _ => ⟨m, by omega, rfl⟩, fun k hk => ?_, sideL_rise _ _, fun _ x => ?_, fun _ => h0, ?_⟩
  · rcases Nat.lt_or_ge k m with q | q
    · have := hall k q; omega
    · rw [show k = m by omega]; exact Int.le_refl _
  · constructor
    · intro hx k hk e
      rcases Nat.lt_or_ge k m with q | q
      · have := hall k q; omega
      · rw [show k = m by omega]; exact hx
    · intro hx; exact hx m (by omega) rfl
  · have := (sideL_len m (V - 2)).2; have := hn.lo; omega
theorem LeastI.more (h : LeastI n V m best c) (h1 : 0 ≤ best) (hc : best < capM n V m) : LeastI n V (m + 1) best c := by
  have hm : 0 < m := by
    rcases Nat.eq_zero_or_pos m with e | e
    · have := (h.zero e).1; omega
    · exact e
  refine ⟨fun e => absurd e (by omega), fun _ => ?_, fun k hk => ?_, h.rise, fun _ x => ?_, fun _ => h1, h.len⟩
  · obtain ⟨m0, h2, h3⟩ := h.at_ hm; exact ⟨m0, by omega, h3⟩
  · rcases Nat.lt_or_ge k m with q | q
    · exact h.low k q
    · rw [show k = m by omega]; omega
  · rw [h.mem hm]
    constructor
    · intro hx k hk e
      rcases Nat.lt_or_ge k m with q | q
      · exact hx k q e
      · rw [show k = m by omega] at e; omega
    · intro hx k hk e; exact hx k (by omega) e
theorem LeastI.both (h : LeastI n V m best c) (h1 : 0 ≤ best) (hc : capM n V m = best) : LeastI n V (m + 1) best (c.filter fun x => (sideL m (V - 2)).contains x) := by
  have hm : 0 < m := by
    rcases Nat.eq_zero_or_pos m with e | e
    · have := (h.zero e).1; omega
    · exact e
  refine ⟨fun e => absurd e (by omega), fun _ => ⟨m, by omega, hc⟩, fun k hk => ?_, h.rise.filter _, fun _ x => ?_, fun _ => h1, Nat.le_trans (List.length_filter_le _ _) h.len⟩
  · rcases Nat.lt_or_ge k m with q | q
    · exact h.low k q
    · rw [show k = m by omega, hc]; exact Int.le_refl _
  · rw [List.mem_filter, h.mem hm]
    constructor
    · rintro ⟨h2, h3⟩ k hk e
      rcases Nat.lt_or_ge k m with q | q
      · exact h2 k q e
      · rw [show k = m by omega]; simpa using h3
    · intro hx
      exact ⟨fun k hk e => hx k (by omega) e, by simpa using hx m (by omega) hc⟩
/-- Max's side is the least -/
theorem LeastI.fin {fl sd : List Int} {val : Int} (h : LeastI n V (2 ^ (V - 2)) best c) (hn : NOk n V) (hch : chkN n = true) (hb : Best n V fl val sd) : best = val ∧ c = sd := by
  have hpos : 0 < 2 ^ (V - 2) := Nat.pow_pos (by omega)
  have hcap : ∀ k, capM n V k = capS n (setS (sideL k (V - 2))) n.arcs.length := fun k => by
    unfold capM capF
    rw [if_pos hch, if_pos (sideL_side hn k)]
    exact capTo_S hn _ (Nat.le_refl _)
  have hlow : ∀ k, val ≤ capM n V k := fun k => by
    rw [hcap]
    have := side_S hn (sideL_side hn k)
    exact hb.low _ this.1 this.2
  have hm := maskS_lt (setS sd) (V - 2)
  have hv : capM n V (maskS (setS sd) (V - 2)) = val := by
    rw [hcap, hb.mask hn]; exact hb.cEq
  have hbest : best = val := by
    obtain ⟨m0, -, h2⟩ := h.at_ hpos
    have h3 := h.low _ hm
    have h4 := hlow m0
    omega
  refine ⟨hbest, rise_ext h.rise hb.rise fun x => ?_⟩
  rw [h.mem hpos]
  constructor
  · intro hx
    have := hx _ hm (by rw [hv, hbest])
    rwa [hb.mask hn] at this
  · intro hx k _ e
    obtain ⟨v, -, rfl⟩ := hb.mem x hx
    have := side_S hn (sideL_side hn k)
    have h5 := hb.least _ this.1 this.2 (by rw [← hcap, e, hbest]) v hx
    exact setS_iff.1 h5
end
end Go.Proofs.Ytikddknhcfhnbaa
/- The chapter's examples. -/
namespace Go.Proofs.Ytikddknhcfhnbaa
def nA : NetD := ⟨3, [⟨0, 1, 3⟩, ⟨1, 2, 2⟩]⟩
def nB : NetD := ⟨2, [⟨0, 1, 3⟩, ⟨0, 1, 4⟩]⟩
def nC : NetD := ⟨2, [⟨1, 0, 0⟩]⟩
theorem chkA : chkN nA = true := by decide
theorem chkB : chkN nB = true := by decide
theorem chkC : chkN nC = false := by decide
theorem capA : capF nA [0, 1] = (2, 0) := by decide
theorem nok_eq {n : NetD} {V : Nat} {x : Int} (h : NOk n V) (hv : n.vs = x) : (V : Int) = x := by rw [← hv, h.vs]
theorem list2 {l : List Int} {a b : Int} (hl : l.length = 2) (h0 : nthI l 0 = a) (h1 : nthI l 1 = b) : l = [a, b] := by
  match l, hl with
  | [x, y], _ => rw [show x = a from h0, show y = b from h1]
theorem bestA {V : Nat} {fl sd : List Int} {val : Int} (hn : NOk nA V) (h : Best nA V fl val sd) : fl = [2, 2] ∧ val = 2 ∧ sd = [0, 1] := by
  have hV : V = 3 := by have := nok_eq hn (x := 3) rfl; omega
  subst hV
  have hs := h.stS hn
  have hlow := h.low (fun v => v == 0 || v == 1) rfl rfl
  have hc := h.cEq
  have e2 : capS nA (fun v => v == 0 || v == 1) nA.arcs.length = 2 := by decide
  rw [e2] at hlow
  have h0 : setS sd 0 = true := hs.1
  have h2 : setS sd 2 = false := hs.2
  have h1 : setS sd 1 = true := by
    cases e : setS sd 1
    · have : capS nA (setS sd) nA.arcs.length = 3 := by simp [capS, nA, nthA, h0, e, h2]
      omega
    · rfl
  have hcv : capS nA (setS sd) nA.arcs.length = 2 := by simp [capS, nA, nthA, h0, h1, h2]
  have hval : val = 2 := by omega
  have hsd : sd = [0, 1] := by
    refine rise_ext h.rise (by decide) fun x => ?_
    constructor
    · intro hx
      obtain ⟨v, hv, rfl⟩ := h.mem x hx
      match v, hv with
      | 0, _ => decide
      | 1, _ => decide
      | 2, _ => have := setS_iff.2 hx; rw [h2] at this; cases this
    · intro hx
      simp only [List.mem_cons, List.not_mem_nil, or_false] at hx
      rcases hx with rfl | rfl
      · exact setS_iff.1 h0
      · exact setS_iff.1 h1
  have f1 : nthI fl 1 = 2 := h.out 1 (by decide) h1 h2
  have f0 : nthI fl 0 = 2 := by
    have := h.vEq
    simp [netF, nA, nthA] at this
    omega
  exact ⟨list2 h.len f0 f1, hval, hsd⟩
theorem bestB {V : Nat} {fl sd : List Int} {val : Int} (hn : NOk nB V) (h : Best nB V fl val sd) : fl = [3, 4] ∧ val = 7 ∧ sd = [0] := by
  have hV : V = 2 := by have := nok_eq hn (x := 2) rfl; omega
  subst hV
  have hs := h.stS hn
  have hc := h.cEq
  have h0 : setS sd 0 = true := hs.1
  have h1 : setS sd 1 = false := hs.2
  have hcv : capS nB (setS sd) nB.arcs.length = 7 := by simp [capS, nB, nthA, h0, h1]
  have hsd : sd = [0] := by
    refine rise_ext h.rise (by decide) fun x => ?_
    constructor
    · intro hx
      obtain ⟨v, hv, rfl⟩ := h.mem x hx
      match v, hv with
      | 0, _ => decide
      | 1, _ => have := setS_iff.2 hx; rw [h1] at this; cases this
    · intro hx
      simp only [List.mem_cons, List.not_mem_nil, or_false] at hx
      subst hx
      exact setS_iff.1 h0
  have f0 : nthI fl 0 = 3 := h.out 0 (by decide) h0 h1
  have f1 : nthI fl 1 = 4 := h.out 1 (by decide) h0 h1
  exact ⟨list2 h.len f0 f1, by omega, hsd⟩
end Go.Proofs.Ytikddknhcfhnbaa
