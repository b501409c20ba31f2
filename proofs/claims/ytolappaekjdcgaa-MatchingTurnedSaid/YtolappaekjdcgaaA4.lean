/- from: the edges of a left vertex. -/
import Derived.Test.YtolappaekjdcgaaA2
namespace Go.Proofs.Ytolappaekjdcgaa
open Go.RowKit
/-- a graph in memory -/
def IsGraph (w : World) (M : Nat → Prop) (v : Value) (g : GrD) : Prop := ∃ v2, v = .agg #[.int .i64 g.left, .int .i64 g.right, v2] ∧ IsEdges w M v2 g.edges
theorem IsGraph.below {w w' : World} {M : Nat → Prop} {v : Value} {g : GrD} (h : IsGraph w M v g) (hb : Below w.heap.size w w') : IsGraph w' M v g := by
  obtain ⟨v2, e, h⟩ := h; exact ⟨v2, e, IsSl.below h hb⟩
theorem IsGraph.keep {w w' : World} {M : Nat → Prop} {v : Value} {g : GrD} (h : IsGraph w M v g) (hk : ∀ p : Addr, M p.block → p.block < w.heap.size → w'.cell? p = w.cell? p) : IsGraph w' M v g := by
  obtain ⟨v2, e, h⟩ := h; exact ⟨v2, e, IsSl.keep h hk⟩
/-- a part of a slice of edges -/
theorem IsEdges.part {w : World} {M : Nat → Prop} {b off n c lo hi c' : Nat} {l : List (Int × Int)} (h : IsEdges w M (.slice (some ⟨b, off, none⟩) n c) l) (h1 : lo < hi) (h2 : hi ≤ l.length) (hc : hi - lo ≤ c') (hc2 : c' ≤ 9223372036854775807) :
    IsEdges w M (.slice (some ⟨b, off + lo * 2, none⟩) (hi - lo) c') ((l.drop lo).take (hi - lo)) := by
  obtain ⟨A', c0, e, h3, h4, h5⟩ := h
  cases e
  have hlen : ((l.drop lo).take (hi - lo)).length = hi - lo := by rw [List.length_take, List.length_drop]; omega
  refine ⟨_, _, by rw [hlen], by rw [hlen]; exact hc, hc2, fun hn => ?_⟩
  obtain ⟨b', off', e, hM, hcl⟩ := h5 (by omega)
  cases e
  refine ⟨b, off + lo * 2, rfl, hM, fun i j hi' hj => ?_⟩
  rw [hlen] at hi'
  have := hcl (lo + i) j (by omega) hj
  rw [show off + lo * 2 + i * 2 + j = off + (lo + i) * 2 + j by omega, this]
  dsimp only
  rw [List.getD_eq_getElem?_getD, List.getD_eq_getElem?_getD, List.getElem?_take_of_lt hi', List.getElem?_drop]
theorem ofV_length (l : List (Int × Int)) (v : Nat) : (ofV l v).length ≤ l.length := List.length_filter_le _ _
def FromW (M : Nat → Prop) (l : List (Int × Int)) (w : World) (e : Ending) (w' : World) : Prop := ∃ A c, e = .returned (.slice A l.length c) ∧ IsEdges w' M (.slice A l.length c) l ∧ Below w.heap.size w w'
set_option maxHeartbeats 1000000 in
theorem from_any (w : World) (M : Nat → Prop) (v : Value) (g : GrD) (h : IsGraph w M v g) {L R : Nat} (hg : GOk g L R) (x : Nat) (hx : x < 1000) :
    Calls Try.prog 36 #[v, .int .i64 x] w (FromW M (ofV g.edges x) w) := by
  obtain ⟨v2, rfl, h⟩ := h
  have H := Lib.hid h
  obtain ⟨A, c, rfl, h1, h2, -⟩ := h
  have HG := Lib.hid hg
  have CS := fun W (hb : Below w.heap.size w W) (t : Int × Int) => Lib.hid (search_any W M _ g.edges (IsSl.below H.out hb) hg.srt hg.len t)
  clear hg
  go_enter Try.func36, Try.ntmps36
  go_wp2_with fail
  refine nameW fun W1 hW1 => ?_
  have HB1 : Hid (Below w.heap.size w W1) := by rw [hW1.out]; exact (Below.refl _ _).alloc (Nat.le_refl _) _
  have k1 : W1.heap[w.heap.size]? = some (.cells #[.int .i64 g.left, .int .i64 g.right, .slice A g.edges.length c] 24 (0, 0)) := (by rw [hW1.out]; simp only [heap_alloc_if]; rw [if_pos trivial])
  clear hW1
  refine (CS W1 HB1.out ((x : Int), 0)).out.mono ?_
  rintro e w2 ⟨lo, hlo, rfl, hb2⟩
  have HLO := Lib.hid hlo
  have k2 := (hb2.block _ (lt_heap k1)).trans k1
  have HB2 := Lib.hid (HB1.out.trans (hb2.mono HB1.out.size))
  have c2 := cell_of (j := 2) k2 rfl
  clear hb2 k1 HB1 hlo
  generalize g.edges.contains ((x : Int), 0) = z0
  go_wp2_with fail
  refine (CS w2 HB2.out ((x : Int) + 1, 0)).out.mono ?_
  rintro e w3 ⟨hi, hhi, rfl, hb3⟩
  have HHI := Lib.hid hhi
  have k3 := (hb3.block _ (lt_heap k2)).trans k2
  have HB3 := Lib.hid (HB2.out.trans (hb3.mono HB2.out.size))
  have hle : lo ≤ hi := low_le HLO.out hhi (.inl (by show (x : Int) < x + 1; omega))
  have hhl := hhi.le
  clear hb3 k2 HB2 c2 hhi
  have c2 := cell_of (j := 2) k3 rfl
  clear k3
  generalize g.edges.contains ((x : Int) + 1, 0) = z1
  have HP := Lib.hid (ofV_part (fun i hi => (HG.out.rng i hi).2.2.1) HLO.out HHI.out)
  have HE3 := Lib.hid (IsSl.below H.out HB3.out : IsEdges w3 M (.slice A g.edges.length c) g.edges)
  clear CS H HG HLO HHI
  rcases Nat.lt_or_ge lo hi with hlt | hge
  · obtain ⟨b, off, rfl, -⟩ : ∃ b off, A = some ⟨b, off, none⟩ ∧ True := by
      obtain ⟨A', c', e, _, _, h3⟩ := HE3.out
      cases e
      obtain ⟨b, off, e, -⟩ := h3 (by omega)
      exact ⟨b, off, e, trivial⟩
    have HF := Lib.hid (IsEdges.part HE3.out hlt hhl (Nat.le_refl (hi - lo)) (by omega))
    rw [← HP.out] at HF
    have hl : (ofV g.edges x).length = hi - lo := by rw [HP.out, List.length_take, List.length_drop]; omega
    have hl2 := Lib.hid hl
    have hne : ¬ hi - lo = 0 := by omega
    have hne2 : ¬ hi = lo := by omega
    clear hl HE3 HP
    go_wp2_with fail
    all_goals first | (exfalso; omega) | skip
    go_ret
    refine ⟨_, hi - lo, Eq.trans (show _ = Ending.returned (.slice (some ⟨b, off + lo * 2, none⟩) (hi - lo) (hi - lo)) from ?_) (by rw [hl2.out]), by rw [hl2.out]; exact HF.out, HB3.out⟩
    simp
  · obtain rfl : lo = hi := by omega
    have hl : Hid (ofV g.edges x = []) := Lib.hid (by rw [HP.out, Nat.sub_self, List.take_zero])
    clear HE3 HP
    go_wp2_with fail
    all_goals first | (exfalso; omega) | skip
    go_ret
    refine ⟨A, 0, by rw [hl.out]; rfl, ?_, HB3.out⟩
    rw [hl.out]
    exact ⟨A, 0, rfl, by simp, by omega, fun h => absurd h (by simp)⟩
end Go.Proofs.Ytolappaekjdcgaa
