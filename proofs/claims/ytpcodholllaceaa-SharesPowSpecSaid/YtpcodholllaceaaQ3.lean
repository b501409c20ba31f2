import Derived.Test.YtpcodholllaceaaF1
namespace Go.Proofs.Ytpcodholllaceaa
open Go.RowKit Go.Shelf

set_option maxHeartbeats 1000000 in
theorem law3 (w : World) (M : Nat → Prop) (v : Value) (xs : List Nat) (h : IsU64 w M v xs) (hx : U64s xs) (hl : xs.length ≤ 140737488355328) (a k : Nat) (hk : k < 18446744073709551616) (n : Int) :
    Calls Try.prog 3 #[.int .u64 a, .int .u64 k, v, .int .i64 n] w fun e w' => e = .returned (.bool true) ∧ Below w.heap.size w w' := by
  have H := Lib.hid h
  have CS := fun W => Lib.hid (sane_any W)
  have C1 := fun W (hB : Below w.heap.size w W) => Lib.hid (powers_any W M v xs (H.out.below hB) hx)
  have C2 := fun W (hB : Below w.heap.size w W) => Lib.hid (refPowers_any W M v xs (H.out.below hB) hl hx)
  have C3 := fun W (hB : Below w.heap.size w W) => Lib.hid (split_any W M v xs (H.out.below hB) n)
  have C4 := fun W (hB : Below w.heap.size w W) => Lib.hid (refSplit_any W M v xs (H.out.below hB) hl n)
  have C5 := fun W => Lib.hid (Pow_any a k hk W)
  have C6 := fun W => Lib.hid (refPow_any a k hk W)
  generalize powersD xs = P at C1 C2
  generalize splitD xs n = S at C3 C4
  generalize pw a k = z at C5 C6
  obtain ⟨ps, pc⟩ := P
  obtain ⟨ss, sc⟩ := S
  obtain ⟨A, c, rfl, h1, h2, -⟩ := h
  clear hx hl hk
  go_enter Try.func3, Try.ntmps3
  by_cases hbig : 30 < xs.length
  · have hb' : (30 : Int) < (xs.length : Int) := by omega
    go_wp2_with fail
    refine (CS _).out.mono ?_
    rintro e w1 ⟨rfl, hb1⟩
    go_wp2_with fail
    go_ret
    exact ⟨rfl, hb1⟩
  · have hb' : ¬ (30 : Int) < (xs.length : Int) := by omega
    go_wp2_with fail
    refine (CS _).out.mono ?_
    rintro e w1 ⟨rfl, hb1⟩
    have HB1 := Lib.hid hb1
    clear hb1
    go_wp2_with fail
    refine (C1 _ HB1.out).out.mono ?_
    rintro e w2 ⟨v2, rfl, hI2, hb2⟩
    have HB2 := Lib.hid (HB1.out.trans (hb2.mono HB1.out.size))
    have HI2 := Lib.hid hI2
    clear hI2 hb2
    go_wp2_with fail
    refine (C2 _ HB2.out).out.mono ?_
    rintro e w3 ⟨v3, rfl, hI3, hb3⟩
    have HB3 := Lib.hid (HB2.out.trans (hb3.mono HB2.out.size))
    have HI2' := Lib.hid (IsSl.below HI2.out hb3)
    have HI3 := Lib.hid hI3
    clear hI3 hb3 HI2
    go_wp2_with fail
    refine (C3 _ HB3.out).out.mono ?_
    rintro e w4 ⟨v4, rfl, hI4, hb4⟩
    have HB4 := Lib.hid (HB3.out.trans (hb4.mono HB3.out.size))
    have HI2 := Lib.hid (IsSl.below HI2'.out hb4)
    have HI3' := Lib.hid (IsSl.below HI3.out hb4)
    have HI4 := Lib.hid hI4
    clear hI4 hb4 HI2' HI3
    go_wp2_with fail
    refine (C4 _ HB4.out).out.mono ?_
    rintro e w5 ⟨v5, rfl, hI5, hb5⟩
    have HB5 := Lib.hid (HB4.out.trans (hb5.mono HB4.out.size))
    have HI2' := Lib.hid (IsSl.below HI2.out hb5)
    have HI3 := Lib.hid (IsSl.below HI3'.out hb5)
    have HI4' := Lib.hid (IsSl.below HI4.out hb5)
    have HI5 := Lib.hid hI5
    clear hI5 hb5 HI2 HI3' HI4
    go_wp2_with fail
    refine (C5 _).out.mono ?_
    rintro e w6 ⟨rfl, n6, rfl⟩
    go_wp2_with fail
    refine (C6 _).out.mono ?_
    rintro e w7 ⟨rfl, rfl⟩
    have hB6 := below_drewN (Below.refl w5.heap.size w5) n6
    have CA := Lib.hid (same_yes (w5.drewN n6) _ _ v2 v3 ps (IsSl.below HI2'.out hB6) (IsSl.below HI3.out hB6))
    clear hB6
    go_wp2_with fail
    refine CA.out.mono ?_
    rintro e w8 ⟨rfl, n8, rfl⟩
    have hB8 := below_drewN (below_drewN (Below.refl w5.heap.size w5) n6) n8
    have CB := Lib.hid (sameShares_yes ((w5.drewN n6).drewN n8) _ _ v4 v5 ss (IsSl.below HI4'.out hB8) (IsSl.below HI5.out hB8))
    have HB9 := Lib.hid (HB5.out.trans (hB8.mono HB5.out.size))
    clear hB8
    generalize (w5.drewN n6).drewN n8 = w9 at CB HB9 ⊢
    go_wp2_with fail
    refine CB.out.mono ?_
    rintro e w10 ⟨rfl, n10, rfl⟩
    go_wp2_with fail
    go_ret
    exact ⟨rfl, below_drewN HB9.out _⟩
end Go.Proofs.Ytpcodholllaceaa
