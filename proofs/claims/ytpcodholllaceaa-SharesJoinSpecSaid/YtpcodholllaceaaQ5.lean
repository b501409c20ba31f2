import Derived.Test.YtpcodholllaceaaF1
namespace Go.Proofs.Ytpcodholllaceaa
open Go.RowKit Go.Shelf

set_option maxHeartbeats 1000000 in
theorem law5 (w : World) (M : Nat → Prop) (v : Value) (l : List (Nat × Nat)) (h : IsShs w M v l) (hl : l.length ≤ 8796093022208) (t : Int) :
    Calls Try.prog 5 #[v, .int .i64 t] w fun e w' => e = .returned (.bool true) ∧ Below w.heap.size w w' := by
  have H := Lib.hid h
  have CS := fun W => Lib.hid (sane_any W)
  have C1 := fun W (hB : Below w.heap.size w W) => Lib.hid (join_any W M v l (H.out.below hB) hl t)
  have C2 := fun W (hB : Below w.heap.size w W) => Lib.hid (refJoin_any W M v l (H.out.below hB) t)
  generalize joinD l t = P at C1 C2
  obtain ⟨a, ac⟩ := P
  obtain ⟨A, c, rfl, h1, h2, -⟩ := h
  clear hl
  go_enter Try.func5, Try.ntmps5
  by_cases hbig : 10 < l.length
  · have hb' : (10 : Int) < (l.length : Int) := by omega
    go_wp2_with fail
    refine (CS _).out.mono ?_
    rintro e w1 ⟨rfl, hb1⟩
    go_wp2_with fail
    go_ret
    exact ⟨rfl, hb1⟩
  · have hb' : ¬ (10 : Int) < (l.length : Int) := by omega
    go_wp2_with fail
    refine (CS _).out.mono ?_
    rintro e w1 ⟨rfl, hb1⟩
    have HB1 := Lib.hid hb1
    clear hb1
    go_wp2_with fail
    refine (C1 _ HB1.out).out.mono ?_
    rintro e w2 ⟨rfl, hb2⟩
    have HB2 := Lib.hid (HB1.out.trans (hb2.mono HB1.out.size))
    clear hb2
    go_wp2_with fail
    refine (C2 _ HB2.out).out.mono ?_
    rintro e w3 ⟨rfl, hb3⟩
    have HB3 := Lib.hid (HB2.out.trans (hb3.mono HB2.out.size))
    clear hb3
    go_wp2_with fail
    go_ret
    exact ⟨rfl, HB3.out⟩
end Go.Proofs.Ytpcodholllaceaa
