/- The reference's Neighbours. -/
import Derived.Test.YtolappaekjdcgaaV3
namespace Go.Proofs.Ytolappaekjdcgaa
open Go.RowKit Sm
def nbF (S : List Int) (out : List Int) (e : Int × Int) : List Int := if S.contains e.1 && !out.contains e.2 then out ++ [e.2] else out
def nbrs (l : List (Int × Int)) (S : List Int) : List Int := l.foldl (nbF S) []
theorem nbrs_snoc {l : List (Int × Int)} {S : List Int} {k : Nat} (hk : k < l.length) : nbrs (l.take (k + 1)) S = nbF S (nbrs (l.take k) S) (nthE l k) := by
  unfold nbrs
  rw [List.take_succ_eq_append_getElem hk, nthE_get hk, List.foldl_append]; rfl
theorem nbrs_len (l : List (Int × Int)) (S : List Int) : ∀ k, (nbrs (l.take k) S).length ≤ k
  | 0 => by simp [nbrs]
  | k + 1 => by
    rcases Nat.lt_or_ge k l.length with h | h
    · have := nbrs_len l S k
      rw [nbrs_snoc h]
      unfold nbF
      split
      · rw [List.length_append, List.length_singleton]; omega
      · omega
    · have := nbrs_len l S k
      rw [List.take_of_length_le (by omega)] at this ⊢
      omega
def RowI25 (w : World) (base : Nat) (v : Value) (l : List Int) : Prop := w.ownsRow base 3 1 v l.length (l.map i64v)
theorem RowI25.ints {w : World} {base : Nat} {v : Value} {l : List Int} (h : RowI25 w base v l) : IsInts w (fun b => base ≤ b) v l := IsInts.ofOwn h
theorem RowI25.sl {w : World} {base : Nat} {v : Value} {l : List Int} (h : RowI25 w base v l) : ∃ A c, v = .slice A l.length c := by
  obtain ⟨-, h2⟩ := h
  rcases h2 with ⟨rfl, e⟩ | ⟨b, cap, cur, rfl, -⟩
  · exact ⟨none, 0, by rw [e]⟩
  · exact ⟨_, _, rfl⟩
def IntW (z : Int) (w : World) (e : Ending) (w' : World) : Prop := e = .returned (.int .i64 z) ∧ Below w.heap.size w w'
set_option maxHeartbeats 2000000 in
theorem neighbours_any (w : World) (M Ma : Nat → Prop) (v va : Value) (g : GrD) (S : List Int) (h : IsGraph w M v g) (ha : IsInts w Ma va S) (hl : g.edges.length ≤ 4096) : Calls Try.prog 23 #[v, va] w (IntW ((nbrs g.edges S).length : Int) w) := by
  obtain ⟨v2, rfl, h2⟩ := h
  have HE := Lib.hid h2
  have HA := Lib.hid ha
  obtain ⟨A, c, rfl, hl1, hl2, -⟩ := h2
  have HF : Hid (nbrs (g.edges.take g.edges.length) S = nbrs g.edges S) := Lib.hid (by rw [List.take_length])
  obtain ⟨z, hz⟩ : ∃ z, z = nbrs g.edges S := ⟨_, rfl⟩
  rw [← hz] at HF ⊢
  obtain ⟨ii, hii, hz0, hz1, hz2⟩ := info_parts Try.infoI64
  have HIU := Lib.hid (And.intro hii (And.intro hz0 (And.intro hz1 hz2)))
  clear hz ha hii hz0 hz1 hz2
  go_enter Try.func23, Try.ntmps23
  go_wp2_with fail
  go_loopw [5, 6] (fun q5 q6 wr => ∃ k : Nat, k ≤ g.edges.length ∧ q6 = .int .i64 (k : Int) ∧ Hid (RowI25 wr (w.heap.size + 1) q5 (nbrs (g.edges.take k) S)) ∧ Hid (Below w.heap.size w wr) ∧ Hid (wr.heap[w.heap.size]? = some (.cells #[.int .i64 g.left, .int .i64 g.right, .slice A g.edges.length c] 24 (0, 0)))) (fun _ q _ => g.edges.length - (intOf q).toNat)
  case atStart =>
    refine ⟨0, Nat.zero_le _, rfl, Lib.hid (own_empty (by simp only [heap_alloc_if, World.size_alloc]; rw [if_pos trivial]) (by omega)), Lib.hid (((Below.refl _ _).alloc (Nat.le_refl _) _).alloc (by simp) _), Lib.hid ?_⟩
    simp only [heap_alloc_if, World.size_alloc]
    rw [if_neg (by omega), if_pos trivial]
  case round =>
    obtain ⟨k, hk, rfl, HO, HB, HX⟩ := hrel
    obtain ⟨g0, g1, g2⟩ := graph_box HX.out
    have hbl := lt_heap HX.out
    by_cases hlt : k < g.edges.length
    · have hlt2 : (k : Int) < (g.edges.length : Int) := by omega
      have hk0 : (0 : Int) ≤ (k : Int) := by omega
      obtain ⟨bb, off, rfl, hb, e0, e1⟩ := HE.out.at_ HB.out hlt
      rw [← nthE_get hlt] at e0 e1
      have HSn := Lib.hid (nbrs_snoc (S := S) hlt)
      have hlen := nbrs_len g.edges S k
      have CA := fun x => Lib.hid (member_any wr Ma va S (IsSl.below HA.out HB.out) x)
      have CB := fun x => Lib.hid (member_any wr _ u5 _ HO.out.ints x)
      obtain ⟨x, hx⟩ : ∃ a, a = nthE g.edges k := ⟨_, rfl⟩
      obtain ⟨o, ho⟩ : ∃ o, o = nbrs (g.edges.take k) S := ⟨_, rfl⟩
      rw [← hx] at e0 e1 HSn
      rw [← ho] at HSn CB HO hlen
      obtain ⟨p, q⟩ := x
      clear hx ho
      dsimp only at e0 e1
      have CP := CA p
      have CQ := CB q
      have HOV : Hid (nbF S o (p, q) = if (S.contains p && !o.contains q) = true then o ++ [q] else o) := rfl
      clear CA CB
      cases hp : S.contains p
      · rw [hp] at CP HOV
        have HE2 : Hid (nbrs (g.edges.take (k + 1)) S = o) := Lib.hid (by rw [HSn.out, HOV.out]; rfl)
        have HO2 : Hid (RowI25 wr (w.heap.size + 1) u5 (nbrs (g.edges.take (k + 1)) S)) := Lib.hid (by rw [HE2.out]; exact HO.out)
        clear hp
        go_wp2_with fail
        refine CP.out.mono ?_
        rintro e w' ⟨rfl, rfl⟩
        go_wp2_with fail
        go_roundw
        case rel => exact ⟨k + 1, by omega, by go_num, HO2, HB, HX⟩
        case measure => simp [intOf]; omega
      · rw [hp] at CP HOV
        cases hq : o.contains q
        · rw [hq] at CQ HOV
          have HE2 : Hid (nbrs (g.edges.take (k + 1)) S = o ++ [q]) := Lib.hid (by rw [HSn.out, HOV.out]; rfl)
          clear hp hq
          go_wp2_with fail
          refine CP.out.mono ?_
          rintro e w' ⟨rfl, rfl⟩
          go_wp2_with fail
          refine CQ.out.mono ?_
          rintro e w' ⟨rfl, rfl⟩
          go_wp2_with (at_builtin; refine wpList_append_cells _ rfl _ _ 25 rfl (w.heap.size + 1) 3 ii (.int .i64 0) 1 8 Try.underlying25 HIU.out.1 HIU.out.2.1 HIU.out.2.2.1 HIU.out.2.2.2 rfl (by decide) _ o.length _ rfl (World.ownsRow.alloc HO.out _) (some ⟨wr.heap.size, 0, none⟩) 1 1 [i64v q] rfl rfl (fun _ => ⟨_, rfl, cell_one_new _ _ _⟩) (one_i64 _) (by unfold maxLen; omega) (by omega) (by have := HB.out.size; simp; omega) ?_; intro v7 w7 ho7 hg7 _)
          have HO2 : Hid (RowI25 w7 (w.heap.size + 1) v7 (nbrs (g.edges.take (k + 1)) S)) := Lib.hid (by rw [HE2.out]; unfold RowI25; rw [List.length_append, List.map_append]; exact ho7)
          have HB2 : Hid (Below w.heap.size w w7) := Lib.hid ((HB.out.alloc HB.out.size _).grown hg7 (by have := HB.out.size; simp; omega) (fun j e => by have := own_base HO.out j e; omega))
          have HX2 := Lib.hid ((hg7.block w.heap.size (by simp; omega) (fun e => by have := own_base HO.out _ e.symm; omega)).trans (heap_alloc_keep HX.out _))
          clear ho7 hg7
          (try simp only [Act.put])
          go_wp2_with fail
          exact ⟨⟨k + 1, by omega, by go_num, HO2, HB2, HX2⟩, by simp [intOf]; omega⟩
        · rw [hq] at CQ HOV
          have HE2 : Hid (nbrs (g.edges.take (k + 1)) S = o) := Lib.hid (by rw [HSn.out, HOV.out]; rfl)
          have HO2 : Hid (RowI25 wr (w.heap.size + 1) u5 (nbrs (g.edges.take (k + 1)) S)) := Lib.hid (by rw [HE2.out]; exact HO.out)
          clear hp hq
          go_wp2_with fail
          refine CP.out.mono ?_
          rintro e w' ⟨rfl, rfl⟩
          go_wp2_with fail
          refine CQ.out.mono ?_
          rintro e w' ⟨rfl, rfl⟩
          go_wp2_with fail
          go_roundw
          case rel => exact ⟨k + 1, by omega, by go_num, HO2, HB, HX⟩
          case measure => simp [intOf]; omega
    · have hnl : ¬ (k : Int) < (g.edges.length : Int) := by omega
      obtain rfl : g.edges.length = k := by omega
      have HO2 : Hid (RowI25 wr (w.heap.size + 1) u5 z) := Lib.hid (by rw [← HF.out]; exact HO.out)
      obtain ⟨A5, d5, rfl⟩ := HO2.out.sl
      go_wp2_with fail
      go_ret
      exact ⟨rfl, HB.out⟩
end Go.Proofs.Ytolappaekjdcgaa
