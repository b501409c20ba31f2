/- good of package wal. -/
import Derived.Test.YtocjhepiooljpaaA3
import Derived.Test.YtocjhepiooljpaaA5
namespace Go.Proofs.Ytocjhepiooljpaa
open Go.RowKit Go.Deep Go.Shelf

set_option maxRecDepth 20000 in
set_option maxHeartbeats 1000000 in
theorem equal_any (w : World) (M M' : Nat → Prop) (A A' : Option Addr) (c c' : Nat) (bs bs' : List UInt8) (h : BytesC w M A bs) (h' : BytesC w M' A' bs') :
    Calls Try.prog 43 #[.slice A bs.length c, .slice A' bs'.length c'] w fun e w' => e = .returned (.bool (decide (bs = bs'))) ∧ w' = w := by
  have h1 := conv_bytes c h
  have h2 := conv_bytes c' h'
  clear h h'
  go_enter Try.func43, Try.ntmps43
  go_wp2
  go_ret
  refine ⟨ret_bool ?_, rfl⟩
  rw [Bool.eq_iff_iff]
  simp

theorem BytesC.part {w : World} {M : Nat → Prop} {b off : Nat} {s : List UInt8} (h : BytesC w M (some ⟨b, off, none⟩) s) (i n : Nat) (hn : i + n ≤ s.length) : BytesC w M (some ⟨b, off + i, none⟩) ((s.drop i).take n) := fun h0 => by
  rw [List.length_take, List.length_drop] at h0
  obtain ⟨b', off', e, hM, hc⟩ := h (by omega)
  injection e with e
  injection e with e1 e2
  subst e1 e2
  refine ⟨b, off + i, rfl, hM, fun k j hk hj => ?_⟩
  rw [List.length_take, List.length_drop] at hk
  have h1 := hc (i + k) j (by omega) hj
  rw [Nat.mul_one] at h1 ⊢
  rw [Nat.add_assoc off i k, h1]
  show some (byt (s.getD (i + k) 0)) = some (byt (((s.drop i).take n).getD k 0))
  rw [List.getD_eq_getElem?_getD, List.getD_eq_getElem?_getD, List.getElem?_take_of_lt (by omega), List.getElem?_drop]
theorem BytesC.below {w w' : World} {M : Nat → Prop} {A : Option Addr} {s : List UInt8} (h : BytesC w M A s) (hb : Below w.heap.size w w') : BytesC w' M A s := h.keep fun _ _ hp => hb.cell hp
/-- the test's two parts -/
theorem good_no {s : List UInt8} {k : Nat} (h : formB s = false) : goodB s k = false := by
  cases e : goodB s k
  · rfl
  · rw [(good_form e).1] at h; cases h
set_option maxRecDepth 20000 in
set_option maxHeartbeats 1000000 in
theorem good_any (w : World) (M : Nat → Prop) (A : Option Addr) (c : Nat) (s : List UInt8) (k : Nat) (hs : s.length = 128) (hc : 128 ≤ c) (hcm : c ≤ 9223372036854775807) (hk : k < 65536) (h : BytesC w M A s) :
    Calls Try.prog 61 #[.slice A 128 c, .int .i64 (k : Int)] w fun e w' => e = .returned (.bool (goodB s k)) ∧ Below w.heap.size w w' := by
  obtain ⟨b, off, rfl, hM, hbl, h10⟩ := h.at_ (Below.refl _ _) (by omega : 10 < s.length)
  obtain ⟨b2, off2, e2, -, -, h11⟩ := h.at_ (Below.refl _ _) (by omega : 11 < s.length)
  obtain ⟨rfl, rfl⟩ : b = b2 ∧ off = off2 := by injection e2 with e2; injection e2 with a b; exact ⟨a, b⟩
  have HS := Lib.hid h
  obtain ⟨kd, hkd⟩ : ∃ kd, kd = kindS s := ⟨_, rfl⟩
  obtain ⟨n, hn⟩ : ∃ n, n = lenS s := ⟨_, rfl⟩
  have e10 : (s[10]).toNat = kd := by rw [hkd]; unfold kindS; rw [List.getD_eq_getElem?_getD, List.getElem?_eq_getElem (by omega), Option.getD_some]
  have e11 : (s[11]).toNat = n := by rw [hn]; unfold lenS; rw [List.getD_eq_getElem?_getD, List.getElem?_eq_getElem (by omega), Option.getD_some]
  rw [e10] at h10
  rw [e11] at h11
  have hkl : kd < 256 := by rw [← e10]; exact byte_lt _
  have hnl : n < 256 := by rw [← e11]; exact byte_lt _
  have HN := Lib.hid hn
  have HK := Lib.hid hkd
  clear e10 e11 hn hkd h e2
  go_enter Try.func61, Try.ntmps61
  go_upto_region 2 with fail
  go_cut [5, 40] (fun a v W => a = .int .i64 (n : Int) ∧ v = .bool (!formB s) ∧ W = w)
  case first =>
    have hf : formB s = (decide (kd ≤ 3) && decide (n ≤ 116) && (decide (2 ≤ kd) || decide (n = 116)) && (decide (kd % 2 = 1) || decide (n ≠ 0))) := by unfold formB; rw [← HN.out, ← HK.out]
    have HF := Lib.hid hf
    clear hf
    have hk5 : 3 < kd ∨ kd = 0 ∨ kd = 1 ∨ kd = 2 ∨ kd = 3 := by omega
    have hn4 : 116 < n ∨ n = 116 ∨ n = 0 ∨ (0 < n ∧ n < 116) := by omega
    rcases hn4 with hn | rfl | rfl | ⟨hn, hn2⟩ <;> rcases hk5 with hk | rfl | rfl | rfl | rfl
    all_goals
      go_wp2_with fail
      go_meet
      case rel =>
        refine ⟨rfl, ?_, rfl⟩
        rw [HF.out]
        first | (simp; done) | (simp only [Value.bool.injEq]; rw [Bool.eq_iff_iff]; simp; omega)
  case rest =>
    obtain ⟨rfl, rfl, hwc⟩ := hcut
    subst hwc
    cases hf : formB s
    · have HZ := Lib.hid (good_no (k := k) hf)
      clear hf
      go_wp2_with fail
      go_ret
      exact ⟨ret_bool HZ.out.symm, Below.refl _ _⟩
    · have HFM := Lib.hid hf
      have hn116 : n ≤ 116 := by
        unfold formB at hf
        simp only [Bool.and_eq_true, decide_eq_true_eq] at hf
        rw [HN.out]; exact hf.1.1.2
      clear hf
      have hc4 : ¬ (c : Int) < 4 := by omega
      obtain ⟨g, hge⟩ : ∃ g, g = genS s := ⟨_, rfl⟩
      have hgl : g < 4294967296 := by rw [hge]; exact num_take_lt s 4
      have G1 := Lib.hid (get_any wc M (some ⟨b, off, none⟩) c (s.take 4) (by rw [List.length_take]; omega) (HS.out.part 0 4 (by omega)))
      rw [show num (s.take 4) = g from hge.symm, show (s.take 4).length = 4 by rw [List.length_take]; omega] at G1
      have HGE := Lib.hid hge
      clear hge
      have hc0 : ¬ c = 0 := by omega
      go_wp2_with fail
      refine (G1.out).mono ?_
      rintro e w2 ⟨rfl, hw2⟩
      have hb2 : Below wc.heap.size wc w2 := by rw [hw2]; exact Below.refl _ _
      have HB2 := Lib.hid hb2
      clear hw2
      have h10' := (hb2.cell (p := ⟨b, off + 10, none⟩) hbl).trans h10
      have hsz2 := hb2.size
      clear hb2 G1
      by_cases hg0 : g = 0
      · have HZ : Hid (goodB s k = false) := Lib.hid (by
          cases e : goodB s k
          · rfl
          · exact absurd ((HGE.out).symm.trans hg0) (good_form e).2)
        subst hg0
        go_wp2_with fail
        go_quiet (fail)
        go_wp2_with fail
        go_ret
        exact ⟨ret_bool HZ.out.symm, below_drewN HB2.out _⟩
      · have hg1 : (0 : Int) < (g : Int) := by omega
        have hg2 : 0 < g := by omega
        have hc12 : ¬ (c : Int) - 12 < 0 := by omega
        have hc13 : ¬ c = 12 := by omega
        have hcn : ¬ (c : Int) < 12 + (n : Int) := by omega
        have hn0 : ¬ (12 + (n : Int)) < 12 := by omega
        have hcn1 : 12 + (n : Int) ≤ (c : Int) := by omega
        have hcn2 : 12 + n ≤ c := by omega
        have hcn3 : ¬ c < 12 + n := by omega
        have hw12 : IntKind.i64.wrap (12 + (n : Int)) = 12 + (n : Int) := IntWalk.i64_in _ (by omega)
        have HLEN := Lib.hid (show (12 + (n : Int)).toNat - 12 = n by omega)
        have hn1 : 0 ≤ 12 + (n : Int) := by omega
        have hn2 : ¬ 12 + (n : Int) < 0 := by omega
        have hn3 : (12 : Int) ≤ 12 + (n : Int) := by omega
        have hgW : IntKind.u64.wrap (g : Int) = (g : Int) := by rw [IntKind.wrap_u64]; omega
        have hkW : kd = (s.getD 10 0).toNat := HK.out
        obtain ⟨kb, hkb⟩ : ∃ kb, kb = s.getD 10 0 := ⟨_, rfl⟩
        rw [← hkb] at hkW
        subst hkW
        have HKB := Lib.hid hkb
        have hdl : ((s.drop 12).take n).length = n := by rw [List.length_take, List.length_drop]; omega
        have HDS : Hid (dataS s = (s.drop 12).take n) := Lib.hid (by unfold dataS; rw [← HN.out])
        have CE := fun (W : World) (hB : Below wc.heap.size wc W) => Lib.hid (encode_any W M g k kb ((s.drop 12).take n) (.slice (some ⟨b, off + 12, none⟩) n (c - 12)) (by omega) (by omega) ⟨_, _, by rw [hdl], by omega, by omega, ((HS.out.part 12 n (by omega)).below hB)⟩)
        have CQ := fun (W : World) (hB : Below wc.heap.size wc W) (A' : Option Addr) (c' : Nat) (h' : BytesC W (fun q => wc.heap.size ≤ q) A' (secOf g k kb ((s.drop 12).take n))) => Lib.hid (equal_any W M _ (some ⟨b, off, none⟩) A' c c' s _ (HS.out.below hB) h')
        rw [hs] at CQ
        clear hkb hdl
        go_wp2_with fail
        go_region_held3 (fun w' => w'.cell? ⟨b, off + 10, none⟩ = some (.int .u8 ((kb.toNat : Nat) : Int))) (first | with_reducible exact h10' | with_reducible exact s10 | go_keep) (first | (go_at_call 44; rw [HLEN.out]; refine (CE _ (by repeat (first | with_reducible exact HB2.out | (with_reducible refine Below.drew ?_)))).out.mono ?_; rintro e w3 ⟨v3, rfl, ⟨A3, c3, rfl, -, -, hb3⟩, hw3⟩; have s10 := (hw3.cell (p := ⟨b, off + 10, none⟩) (Nat.lt_of_lt_of_le hbl HB2.out.size)).trans h10'; have HY3 := Lib.hid hb3; have HB3 := Lib.hid ((Below.drew HB2.out).trans (hw3.mono HB2.out.size)); clear hb3 hw3) | (go_at_call 43; refine (CQ _ HB3.out _ _ (HY3.out.mono fun q _ hq => Nat.le_trans HB2.out.size hq)).out.mono ?_; rintro e w4 ⟨rfl, rfl⟩))
        go_wp2_with fail
        go_ret
        refine ⟨ret_bool ?_, HB3.out⟩
        rw [good_iff hs hk, HFM.out, ← HGE.out, HDS.out, ← HKB.out, decide_eq_true hg2]
        rfl
end Go.Proofs.Ytocjhepiooljpaa
