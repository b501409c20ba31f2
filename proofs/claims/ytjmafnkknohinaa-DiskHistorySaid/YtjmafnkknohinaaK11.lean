import Derived.Test.YtjmafnkknohinaaK10
namespace Go.Proofs.Ytjmafnkknohinaa
open Go.RowKit Go.Shelf Go.Deep

set_option maxRecDepth 100000 in
set_option maxHeartbeats 2000000 in
theorem law6_long (w : World) (ac : List ActD) (u : Value) (ha : IsActs w (NB []) u ac) (r : Nat) (hx0 : 40 < ac.length) : Calls Try.prog 6 #[u, .int .u8 (r : Int)] w fun e w' => e = .returned (.bool true) ∧ Below w.heap.size w w' := by
  have Q0_w := Lib.hid ha
  clear ha
  obtain ⟨aA, aC, rfl, ha1, ha2, -⟩ := Q0_w.out
  go_enter Try.func6, Try.ntmps6
  go_wp2_with fail
  refine nameW fun W1 hW1 => ?_
  have kpW1 : Kp [] w W1 := by rw [hW1.out]; repeat (first | exact Kp.refl _ _ | refine Kp.alloc ?_ _ | refine Kp.setCell ?_ (by simp) _ _ | refine Kp.drew ?_ | refine Kp.drewN ?_ _)
  have bwW1 : Below w.heap.size w W1 := by rw [hW1.out]; repeat (first | exact Below.refl _ _ | refine Below.alloc ?_ (by (repeat (first | simp only [World.size_alloc] | simp only [size_set] | simp only [World.size_drew])); omega) _ | refine Below.setCell ?_ (by first | (dsimp only; omega) | omega) _ | refine Below.drew ?_ | refine below_drewN ?_ _)
  have szW1 : w.heap.size ≤ W1.heap.size := kpW1.size
  have inW1 : InW [] W1 := InW.nil _
  have Q0_W1 := Lib.hid ((Q0_w.out).kp kpW1)
  clear Q0_w
  have C1 := Lib.hid (sane_any W1)
  refine C1.out.mono ?_
  rintro e w1 ⟨rfl, hb1⟩
  have Q0_w1 := Lib.hid (Q0_W1.out.below hb1)
  have bww1 := Lib.hid (bwW1.trans (hb1.mono bwW1.size))
  have szw1 : W1.heap.size ≤ w1.heap.size := hb1.size
  clear Q0_W1
  clear kpW1 bwW1 inW1 hb1
  clear C1
  have hx1 : (40 : Int) < (ac.length : Int) := by omega
  go_wp2_with fail
  go_ret
  exact ⟨rfl, bww1.out⟩
theorem law6 (w : World) (ac : List ActD) (u : Value) (ha : IsActs w (NB []) u ac) (x : Int) (hx : (Lit.int .u8 x).wf = true) : Calls Try.prog 6 #[u, .int .u8 x] w fun e w' => e = .returned (.bool true) ∧ Below w.heap.size w w' := by
  have hr : 0 ≤ x ∧ x ≤ 255 := by simpa [Lit.wf, IntKind.min, IntKind.max, IntKind.signed, IntKind.bits] using hx
  obtain ⟨r, rfl⟩ : ∃ r : Nat, x = r := ⟨x.toNat, by omega⟩
  by_cases h : ac.length ≤ 40
  · exact law6_go w ac u ha r (by omega) h
  · exact law6_long w ac u ha r (by omega)
end Go.Proofs.Ytjmafnkknohinaa
