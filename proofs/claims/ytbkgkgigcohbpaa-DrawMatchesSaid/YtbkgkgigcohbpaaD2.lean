import Derived.Test.YtbkgkgigcohbpaaD1
namespace Go.Proofs.Ytbkgkgigcohbpaa
open Go.RowKit

/-- f is not among the first k -/
def noE (l : List (Int × Int)) (f : Int × Int) (k : Nat) : Prop := ∀ j, (h : j < l.length) → j < k → l[j] ≠ f
theorem noE_zero {l : List (Int × Int)} {f : Int × Int} : noE l f 0 := fun _ _ h => absurd h (by omega)
theorem noE_succ {l : List (Int × Int)} {f : Int × Int} {k : Nat} (h : noE l f k) (hk : k < l.length) (hne : l[k] ≠ f) : noE l f (k + 1) := fun j hj hjk => by
  rcases Nat.lt_or_ge j k with h1 | h1
  · exact h j hj h1
  · have : j = k := by omega
    subst this
    exact hne
theorem noE_all {l : List (Int × Int)} {f : Int × Int} (h : noE l f l.length) : l.contains f = false := by
  rw [Bool.eq_false_iff]
  intro hc
  rw [List.contains_iff_mem, List.mem_iff_getElem] at hc
  obtain ⟨j, hj, e⟩ := hc
  exact h j hj hj e
theorem hasE {l : List (Int × Int)} {f : Int × Int} {k : Nat} (hk : k < l.length) (h : l[k] = f) : l.contains f = true := by
  rw [List.contains_iff_mem, ← h]
  exact List.getElem_mem hk
theorem refMay_any (w : World) (M : Nat → Prop) (v : Value) (d : DrawD) (h : IsDraw w M v d) (i k : Nat) (hi : i < d.first.length) (hk : k < d.second.length) :
    Calls Try.prog 25 #[v, .int .i64 i, .int .i64 k] w fun e w' => e = .returned (.bool (mayD d i k)) ∧ Below w.heap.size w w' := by
  obtain ⟨v1, v2, v3, rfl, hi1, hi2, hi3⟩ := h
  have H1 := Lib.hid hi1
  have H2 := Lib.hid hi2
  have H3 := Lib.hid hi3
  obtain ⟨A1, c1, rfl, hl1, -, -⟩ := hi1
  obtain ⟨A2, c2, rfl, hl2, -, -⟩ := hi2
  obtain ⟨A3, c3, rfl, hl3, hm3, -⟩ := hi3
  have HM : Hid (mayD d i k = !d.forb.contains (nthI d.first i, nthI d.second k)) := rfl
  obtain ⟨b1, o1, rfl, g1, -⟩ := H1.out.at_ (Below.refl _ _) hi
  obtain ⟨b2, o2, rfl, g2, -⟩ := H2.out.at_ (Below.refl _ _) hk
  have E1 : ∀ W, Below w.heap.size w W → Hid (W.cell? ⟨b1, o1 + i, none⟩ = some (.int .i64 (nthI d.first i))) := fun W hB => by
    obtain ⟨b, o, e, -, h⟩ := H1.out.at_ hB hi
    cases e
    exact h
  have E2 : ∀ W, Below w.heap.size w W → Hid (W.cell? ⟨b2, o2 + k, none⟩ = some (.int .i64 (nthI d.second k))) := fun W hB => by
    obtain ⟨b, o, e, -, h⟩ := H2.out.at_ hB hk
    cases e
    exact h
  have hlen : d.forb.length ≤ 9223372036854775807 := by have := hm3; unfold maxLen at this; omega
  generalize nthI d.first i = x at E1 HM
  generalize nthI d.second k = y at E2 HM
  have hii : (i : Int) < (d.first.length : Int) := by omega
  have hkk : (k : Int) < (d.second.length : Int) := by omega
  have hi0 : (0 : Int) ≤ (i : Int) := by omega
  have hk0 : (0 : Int) ≤ (k : Int) := by omega
  have hic : (i : Int) ≤ (c1 : Int) := by omega
  have hkc : (k : Int) ≤ (c2 : Int) := by omega
  clear H1 H2
  generalize hF : d.forb = L at H3 HM hlen hl3 hm3
  go_enter Try.func25, Try.ntmps25
  go_wp2_with fail
  go_loopw [7] (fun q wr => ∃ j : Nat, j ≤ L.length ∧ q = .int .i64 j ∧ Hid (noE L (x, y) j) ∧ Hid (Below w.heap.size w wr) ∧ wr.heap[w.heap.size]? = some (.cells #[.slice (some ⟨b1, o1, none⟩) d.first.length c1, .slice (some ⟨b2, o2, none⟩) d.second.length c2, .slice A3 L.length c3] 25 (0, 0))) (fun q _ => L.length - (intOf q).toNat)
  case atStart => exact ⟨0, Nat.zero_le _, rfl, Lib.hid noE_zero, Lib.hid ((Below.refl w.heap.size w).alloc (Nat.le_refl _) _), by simp only [heap_alloc_if]; rw [if_pos trivial]⟩
  case round =>
    obtain ⟨j, hj, rfl, HN, HB, hbox⟩ := hrel
    have q0 := cell_of (j := 0) hbox rfl
    have q1 := cell_of (j := 1) hbox rfl
    have q2 := cell_of (j := 2) hbox rfl
    by_cases hlt : j < L.length
    · obtain ⟨b3, o3, rfl, -, f1, f2⟩ := H3.out.at_ HB.out hlt
      have z1 := (E1 _ HB.out).out
      have z2 := (E2 _ HB.out).out
      have hlt' : (j : Int) < (L.length : Int) := by omega
      have hj0 : (0 : Int) ≤ (j : Int) := by omega
      have HS := Lib.hid (fun hne => noE_succ HN.out hlt hne)
      have HH := Lib.hid (fun he => hasE (f := (x, y)) hlt he)
      have HE : Hid (L[j] = (L[j].1, L[j].2)) := rfl
      generalize L[j] = f at f1 f2 HS HH HE
      obtain ⟨p, q⟩ := f
      have f1' : wr.cell? ⟨b3, o3 + j * 2, none⟩ = some (.int .i64 p) := f1
      have f2' : wr.cell? ⟨b3, o3 + j * 2 + 1, none⟩ = some (.int .i64 q) := f2
      clear f1 f2
      by_cases hp : p = x
      · subst hp
        by_cases hq : q = y
        · subst hq
          have HC := Lib.hid (HH.out HE.out)
          clear HS HH
          go_wp2_with fail
          go_quiet (fail)
          go_wp2_with fail
          go_ret
          exact ⟨ret_bool (by rw [HM.out, HC.out]; rfl), below_drewN HB.out _⟩
        · have HC := Lib.hid (HS.out (by rw [HE.out]; intro e; exact hq (congrArg Prod.snd e)))
          have dq : decide (q = y) = false := decide_eq_false hq
          clear HS HH
          go_wp2_with fail
          go_quiet (fail)
          go_wp2_with fail
          go_roundw
          case rel => exact ⟨j + 1, by omega, by go_num, HC, Lib.hid (below_drewN HB.out _), hbox⟩
          case measure => simp [intOf]; omega
      · have HC := Lib.hid (HS.out (by rw [HE.out]; intro e; exact hp (congrArg Prod.fst e)))
        have dp : decide (p = x) = false := decide_eq_false hp
        clear HS HH
        go_wp2_with fail
        go_quiet (fail)
        go_wp2_with fail
        go_roundw
        case rel => exact ⟨j + 1, by omega, by go_num, HC, Lib.hid (below_drewN HB.out _), hbox⟩
        case measure => simp [intOf]; omega
    · have hnl : ¬ (j : Int) < (L.length : Int) := by omega
      have HA := Lib.hid (noE_all (l := L) (f := (x, y)) ((show j = L.length by omega) ▸ HN.out))
      go_wp2_with fail
      go_ret
      exact ⟨ret_bool (by rw [HM.out, HA.out]; rfl), HB.out⟩
end Go.Proofs.Ytbkgkgigcohbpaa
