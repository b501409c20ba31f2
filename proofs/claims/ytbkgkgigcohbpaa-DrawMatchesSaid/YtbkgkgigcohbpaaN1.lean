import Derived.Test.YtbkgkgigcohbpaaH4
import Derived.Test.YtbkgkgigcohbpaaD2
namespace Go.Proofs.Ytbkgkgigcohbpaa
open Go.RowKit
theorem setOf_bit : ∀ (l : List Nat) (s j : Nat), (setOf l s).testBit j = (s.testBit j || l.contains j)
  | [], s, j => by simp [setOf]
  | k :: l, s, j => by
    show (setOf l (wth s k)).testBit j = _
    rw [setOf_bit l, wth_bit, List.contains_cons, Bool.or_assoc]
    congr 2
    by_cases h : k = j
    · simp [h]
    · have h' : ¬ j = k := fun e => h e.symm
      simp [h, h']
theorem okL_at {may : Nat → Nat → Bool} {n : Nat} {x : List Nat} (h : okL may n 0 0 x = true) {i : Nat} (hi : i < x.length) : x[i] < n ∧ may i x[i] = true ∧ ∀ j (hj : j < i), x[j] ≠ x[i] := by
  have hd : x = x.take i ++ x[i] :: x.drop (i + 1) := by
    have := (List.take_append_drop i x).symm
    rw [List.drop_eq_getElem_cons hi] at this
    exact this
  have hl : (x.take i).length = i := by rw [List.length_take]; omega
  rw [hd, okL_append, hl, okL] at h
  simp only [Bool.and_eq_true, decide_eq_true_eq, Bool.not_eq_true', Nat.zero_add] at h
  refine ⟨h.2.1.1, h.2.1.2.2, fun j hj e => ?_⟩
  have hb := h.2.1.2.1
  rw [setOf_bit, Nat.zero_testBit, Bool.false_or] at hb
  have hm : x[i] ∈ x.take i := by
    rw [← e, List.mem_iff_getElem]
    exact ⟨j, by rw [hl]; exact hj, by rw [List.getElem_take]⟩
  rw [← List.contains_iff_mem, hb] at hm
  cases hm
theorem nthI_ofN {x : List Nat} {i : Nat} (hi : i < x.length) : nthI (ofN x) i = ((x[i] : Nat) : Int) := by
  rw [nthI_get (by rw [ofN_len]; exact hi)]; simp [ofN]
theorem outsD_ok {d : DrawD} {x : List Nat} (h : x ∈ outsD d) : x.length = nD d ∧ okL (mayD d) (nD d) 0 0 x = true := by
  obtain ⟨h1, h2⟩ := mem_outs.1 (show x ∈ outs (mayD d) (nD d) (nD d - pcn 0 (nD d)) (pcn 0 (nD d)) 0 from h)
  rw [pcn_zero] at h1 h2
  exact ⟨h1, h2⟩
set_option maxHeartbeats 1000000 in
theorem permits_any (w : World) (M M' : Nat → Prop) (v vp : Value) (d : DrawD) (x : List Nat) (h : IsDraw w M v d) (hp : IsInts w M' vp (ofN x)) (hc : checkB d = true) (hx : x ∈ outsD d) :
    Calls Try.prog 24 #[v, vp] w fun e w' => e = .returned (.bool true) ∧ Below w.heap.size w w' := by
  have HD := Lib.hid h
  have HP := Lib.hid hp
  have hl := (checkB_len hc).2.2.1
  obtain ⟨hxl, hok⟩ := outsD_ok hx
  obtain ⟨v1, v2, v3, rfl, ⟨A1, c1, rfl, -⟩, ⟨A2, c2, rfl, -⟩, -⟩ := h
  obtain ⟨A, c, rfl, hl1, hl2, -⟩ := hp
  have HOK := Lib.hid hok
  obtain ⟨n, hn⟩ : ∃ n, n = nD d := ⟨_, rfl⟩
  have hn1 : d.first.length = n := hn.symm
  have hn2 : d.second.length = n := by rw [← hl, hn]
  have hn3 : (ofN x).length = n := by rw [ofN_len, hxl, hn]
  have hn16 : n ≤ 16 := hn ▸ (checkB_len hc).2.1
  rw [hn3] at hl1 HP
  rw [hn1, hn2] at HD
  rw [hn1, hn2, hn3]
  have HN := Lib.hid (And.intro hn1 (And.intro hn2 (show x.length = n by rw [hxl, hn])))
  clear hn1 hn2 hn3 hn hl hxl hok hx
  go_enter Try.func24, Try.ntmps24
  go_wp2_with fail
  go_loopw [17] (fun q wr => ∃ i : Nat, i ≤ n ∧ q = .int .i64 (i : Int) ∧ Hid (Below w.heap.size w wr) ∧ Hid (wr.heap[w.heap.size]? = some (.cells #[.slice A1 n c1, .slice A2 n c2, v3] 25 (0, 0)))) (fun q _ => n - (intOf q).toNat)
  case atStart => exact ⟨0, Nat.zero_le _, rfl, Lib.hid ((Below.refl _ _).alloc (Nat.le_refl _) _), Lib.hid (by rw [heap_alloc_if, if_pos rfl])⟩
  case round =>
    obtain ⟨i, hi, rfl, HB, HBX⟩ := hrel
    by_cases hin : i < n
    · have hii : (i : Int) < (n : Int) := by omega
      have hi0 : (0 : Int) ≤ (i : Int) := by omega
      have hix : i < x.length := by rw [HN.out.2.2]; exact hin
      obtain ⟨b, off, rfl, -, f1⟩ := HP.out.at_ HB.out (show i < (ofN x).length by rw [ofN_len]; exact hix)
      have hat := okL_at HOK.out hix
      rw [nthI_ofN hix] at f1
      have HNE := Lib.hid hat.2.2
      have CM := Lib.hid (refMay_any wr M _ d (HD.out.below HB.out) i x[i] (by rw [HN.out.1]; exact hin) (by rw [HN.out.2.1, ← HN.out.1]; exact hat.1))
      rw [hat.2.1] at CM
      have hpn : x[i] < n := HN.out.1 ▸ hat.1
      obtain ⟨p, hp⟩ : ∃ p, p = x[i] := ⟨_, rfl⟩
      rw [← hp] at f1 CM hpn
      have HPX := Lib.hid hp
      have hp0 : (0 : Int) ≤ (p : Int) := by omega
      have hp1 : ¬ (n : Int) ≤ (p : Int) := by omega
      have hp2 : ¬ (p : Int) < 0 := by omega
      have hc0 := cell_of (j := 0) HBX.out rfl
      have hc1 := cell_of (j := 1) HBX.out rfl
      have hc2 := cell_of (j := 2) HBX.out rfl
      have hic : (i : Int) ≤ (c : Int) := by omega
      clear hat hp
      go_wp2_with fail
      refine CM.out.mono ?_
      rintro e W ⟨rfl, hbW⟩
      have HB2 := Lib.hid (HB.out.trans (hbW.mono HB.out.size))
      have HBX2 := Lib.hid ((hbW.block _ (lt_heap HBX.out)).trans HBX.out)
      clear hc0 hc1 hc2 f1 hbW
      go_wp2_with fail
      go_loopw [42] (fun q wx => ∃ j : Nat, j ≤ i ∧ q = .int .i64 (j : Int) ∧ wx = W) (fun q _ => i - (intOf q).toNat)
      case atStart => exact ⟨0, Nat.zero_le _, rfl, rfl⟩
      case round =>
        obtain ⟨j, hj, rfl, rfl⟩ := hrel
        by_cases hji : j < i
        · have hjj : (j : Int) < (i : Int) := by omega
          have hj0 : (0 : Int) ≤ (j : Int) := by omega
          have hjx : j < x.length := by omega
          obtain ⟨_, _, e2, -, f2⟩ := HP.out.at_ HB2.out (show j < (ofN x).length by rw [ofN_len]; exact hjx)
          cases e2
          rw [nthI_ofN hjx] at f2
          have hne := HNE.out j hji
          rw [← HPX.out] at hne
          obtain ⟨q, hq⟩ : ∃ q, q = x[j] := ⟨_, rfl⟩
          rw [← hq] at f2 hne
          have hqp : ((q : Int) == (p : Int)) = false := by rw [beq_eq_false_iff_ne]; omega
          have hqp2 : ¬ (q : Int) = (p : Int) := by omega
          clear hq hne
          go_wp2_with fail
          go_roundw
          case rel => exact ⟨j + 1, by omega, by go_num, trivial⟩
          case measure => simp [intOf]; omega
        · have hjj : ¬ (j : Int) < (i : Int) := by omega
          go_wp2_with fail
          go_roundw
          case rel => exact ⟨i + 1, by omega, by go_num, HB2, HBX2⟩
          case measure => simp [intOf]; omega
    · have hii : ¬ (i : Int) < (n : Int) := by omega
      go_wp2_with fail
      go_ret
      exact ⟨rfl, HB.out⟩
end Go.Proofs.Ytbkgkgigcohbpaa
