import Derived.Test.YtjmafnkknohinaaK4
import Derived.Test.YtjmafnkknohinaaL2
import Derived.Deep.DeepCutAuto
namespace Go.Proofs.Ytjmafnkknohinaa
open Go.RowKit Go.Shelf Go.Deep

structure ActD where
  sync : Bool
  pos : UInt8
  byte : UInt8
def a0 : ActD := ⟨false, 0, 0⟩
def actCell (a : ActD) (j : Nat) : Value := if j = 0 then .bool a.sync else if j = 1 then byt a.pos else byt a.byte
def IsActs (w : World) (M : Nat → Prop) (v : Value) (ac : List ActD) : Prop := ∃ A c, v = .slice A ac.length c ∧ ac.length ≤ c ∧ c ≤ 9223372036854775807 ∧ Cells w M 3 A ac.length (fun i j => actCell (ac.getD i a0) j)
section
variable {w w' : World} {M M' : Nat → Prop} {v : Value} {ac : List ActD} {l : List Nat} {n : Nat}
theorem IsActs.keep (h : IsActs w M v ac) (hk : ∀ p : Addr, M p.block → p.block < w.heap.size → w'.cell? p = w.cell? p) : IsActs w' M v ac := by
  obtain ⟨A, c, e, h1, h2, h3⟩ := h; exact ⟨A, c, e, h1, h2, h3.keep hk⟩
theorem IsActs.mono (h : IsActs w M v ac) (hM : ∀ b, b < w.heap.size → M b → M' b) : IsActs w M' v ac := by
  obtain ⟨A, c, e, h1, h2, h3⟩ := h; exact ⟨A, c, e, h1, h2, h3.mono hM (by omega)⟩
theorem IsActs.below (h : IsActs w M v ac) (hb : Below w.heap.size w w') : IsActs w' M v ac := h.keep fun _ _ hp => hb.cell hp
theorem IsActs.kp (h : IsActs w (NB l) v ac) (k : Kp l w w') : IsActs w' (NB l) v ac := h.keep fun _ hp hl => k.cell hp hl
theorem IsActs.box (h : IsActs w (NB l) v ac) (hn : w.heap.size ≤ n) : IsActs w (NB (n :: l)) v ac := h.mono fun b hb hM => NB.cons (by omega) hM
theorem IsActs.at3 {A : Option Addr} {m c k : Nat} (h : IsActs w M (.slice A m c) ac) (hk : k < ac.length) : ∃ b off, A = some ⟨b, off, none⟩ ∧ w.cell? ⟨b, off + k * 3, none⟩ = some (.bool (ac[k]).sync) ∧
    w.cell? ⟨b, off + k * 3 + 1, none⟩ = some (.int .u8 ((ac[k]).pos.toNat : Int)) ∧ w.cell? ⟨b, off + k * 3 + 2, none⟩ = some (.int .u8 ((ac[k]).byte.toNat : Int)) := by
  obtain ⟨A', c', e, -, -, h3⟩ := h
  cases e
  obtain ⟨b, off, e, -, hc⟩ := h3 (by omega)
  have e0 : ac.getD k a0 = ac[k] := by rw [List.getD_eq_getElem?_getD, List.getElem?_eq_getElem hk, Option.getD_some]
  have h0 := hc k 0 hk (by omega)
  have h1 := hc k 1 hk (by omega)
  have h2 := hc k 2 hk (by omega)
  dsimp only at h0 h1 h2
  rw [e0] at h0 h1 h2
  exact ⟨b, off, e, h0, h1, h2⟩
end
set_option maxRecDepth 100000 in
set_option maxHeartbeats 2000000 in
theorem law8_r1 (w : World) (d : DiskD) (v : Value) (h : IsDisk w (NB []) v d) (hL : Lens d) (ac : List ActD) (u : Value) (ha : IsActs w (NB []) u ac) (hx : 20 < ac.length) : Calls Try.prog 8 #[v, u] w fun e w' => e = .returned (.bool true) ∧ Below w.heap.size w w' := by
  obtain ⟨sA0, sc0, pA0, pc0, rfl, hsA1, hsA2, -⟩ := h.parts
  have D0_w := Lib.hid h
  clear h
  have Q0_w := Lib.hid ha
  clear ha
  obtain ⟨aA, aC, rfl, ha1, ha2, -⟩ := Q0_w.out
  go_enter Try.func8, Try.ntmps8
  go_wp2_with fail
  refine nameW fun W1 hW1 => ?_
  have kpW1 : Kp [w.heap.size] w W1 := by rw [hW1.out]; repeat (first | exact Kp.refl _ _ | refine Kp.alloc ?_ _ | refine Kp.setCell ?_ (by simp) _ _ | refine Kp.drew ?_ | refine Kp.drewN ?_ _)
  have bwW1 : Below w.heap.size w W1 := by rw [hW1.out]; repeat (first | exact Below.refl _ _ | refine Below.alloc ?_ (by (repeat (first | simp only [World.size_alloc] | simp only [size_set] | simp only [World.size_drew])); omega) _ | refine Below.setCell ?_ (by first | (dsimp only; omega) | omega) _ | refine Below.drew ?_ | refine below_drewN ?_ _)
  have szW1 : w.heap.size ≤ W1.heap.size := kpW1.size
  have Bx_W1 : Hid (W1.heap[w.heap.size]? = some (.cells #[.slice sA0 d.sectors.length sc0, .slice pA0 d.pending.length pc0, .int .i64 d.left, .bool d.stopped] 25 (0, 0))) := by show _ = _; rw [hW1.out]; (repeat (first | simp only [heap_drew] | simp only [World.heap_drewN] | simp only [heap_alloc_if] | simp only [heap_set_if] | simp only [World.size_alloc] | simp only [size_set] | simp only [World.size_drew])); (repeat (first | rw [if_pos trivial] | rw [if_pos (by omega)] | rw [if_neg (by omega)]))
  have ltx_W1 : w.heap.size < W1.heap.size := lt_heap Bx_W1.out
  have mkx : w.heap.size < W1.heap.size := ltx_W1
  have inW1 : InW [w.heap.size] W1 := by intro b hb; simp at hb; omega
  have D0_W1 := Lib.hid (((D0_w.out).box (by omega)).kp kpW1)
  have Q0_W1 := Lib.hid (((Q0_w.out).box (by omega)).kp kpW1)
  clear D0_w Q0_w
  have C1 := Lib.hid (sane_any W1)
  refine C1.out.mono ?_
  rintro e w1 ⟨rfl, hb1⟩
  have Bx_w1 := Lib.hid ((hb1.block (w.heap.size) (by omega)).trans Bx_W1.out)
  have ltx_w1 : w.heap.size < w1.heap.size := lt_heap Bx_w1.out
  have D0_w1 := Lib.hid (D0_W1.out.below hb1)
  have Q0_w1 := Lib.hid (Q0_W1.out.below hb1)
  have bww1 := Lib.hid (bwW1.trans (hb1.mono bwW1.size))
  have szw1 : W1.heap.size ≤ w1.heap.size := hb1.size
  clear Bx_W1 ltx_W1 D0_W1 Q0_W1
  clear kpW1 bwW1 inW1 hb1
  clear C1
  obtain ⟨⟨c0, c1, c2, c3⟩, ⟨cf0, cf1, cf2, cf3⟩⟩ := blk4 (Below.refl _ w1) Bx_w1.out (Nat.lt_succ_self _)
  go_wp2_with fail
  refine nameW fun W2 hW2 => ?_
  have kpW2 : Kp [w.heap.size] w1 W2 := by rw [hW2.out]; repeat (first | exact Kp.refl _ _ | refine Kp.alloc ?_ _ | refine Kp.setCell ?_ (by simp) _ _ | refine Kp.drew ?_ | refine Kp.drewN ?_ _)
  have bwW2 : Below w.heap.size w W2 := by rw [hW2.out]; repeat (first | exact bww1.out | refine Below.alloc ?_ (by (repeat (first | simp only [World.size_alloc] | simp only [size_set] | simp only [World.size_drew])); omega) _ | refine Below.setCell ?_ (by first | (dsimp only; omega) | omega) _ | refine Below.drew ?_ | refine below_drewN ?_ _)
  have szW2 : w1.heap.size ≤ W2.heap.size := kpW2.size
  have Bx_W2 : Hid (W2.heap[w.heap.size]? = some (.cells #[.slice sA0 d.sectors.length sc0, .slice pA0 d.pending.length pc0, .int .i64 d.left, .bool d.stopped] 25 (0, 0))) := by show _ = _; rw [hW2.out]; (repeat (first | simp only [heap_drew] | simp only [World.heap_drewN] | simp only [heap_alloc_if] | simp only [heap_set_if] | simp only [World.size_alloc] | simp only [size_set] | simp only [World.size_drew])); (repeat (first | rw [if_pos trivial] | rw [if_pos (by omega)] | rw [if_neg (by omega)])); exact Bx_w1.out
  have ltx_W2 : w.heap.size < W2.heap.size := lt_heap Bx_W2.out
  have inW2 : InW [w.heap.size] W2 := by intro b hb; simp at hb; omega
  have D0_W2 := Lib.hid ((D0_w1.out).kp kpW2)
  have Q0_W2 := Lib.hid ((Q0_w1.out).kp kpW2)
  clear Bx_w1 ltx_w1 D0_w1 Q0_w1 c0 c1 c2 c3 cf0 cf1 cf2 cf3
  have C2 := Lib.hid (few_any W2 (NB [w.heap.size]) d _ D0_W2.out hL)
  refine C2.out.mono ?_
  rintro e w2 ⟨fb, rfl, hsm, hb2⟩
  have HSM := Lib.hid hsm
  clear hsm
  have Bx_w2 := Lib.hid ((hb2.block (w.heap.size) (by omega)).trans Bx_W2.out)
  have ltx_w2 : w.heap.size < w2.heap.size := lt_heap Bx_w2.out
  have D0_w2 := Lib.hid (D0_W2.out.below hb2)
  have Q0_w2 := Lib.hid (Q0_W2.out.below hb2)
  have bww2 := Lib.hid (bwW2.trans (hb2.mono bwW2.size))
  have szw2 : W2.heap.size ≤ w2.heap.size := hb2.size
  clear Bx_W2 ltx_W2 D0_W2 Q0_W2
  clear kpW2 bwW2 inW2 hb2
  clear C2
  cases fb with
  | false =>
    go_wp2_with fail
    go_ret
    exact ⟨rfl, bww2.out⟩
  | true =>
    have hx1 : (20 : Int) < (ac.length : Int) := by omega
    obtain ⟨⟨c0, c1, c2, c3⟩, ⟨cf0, cf1, cf2, cf3⟩⟩ := blk4 (Below.refl _ w2) Bx_w2.out (Nat.lt_succ_self _)
    go_wp2_with fail
    go_ret
    exact ⟨rfl, bww2.out⟩
set_option maxRecDepth 100000 in
set_option maxHeartbeats 2000000 in
theorem law8_r2 (w : World) (d : DiskD) (v : Value) (h : IsDisk w (NB []) v d) (hL : Lens d) (ac : List ActD) (u : Value) (ha : IsActs w (NB []) u ac) (hx0 : ac.length ≤ 20) (hx : 0 < d.pending.length) : Calls Try.prog 8 #[v, u] w fun e w' => e = .returned (.bool true) ∧ Below w.heap.size w w' := by
  obtain ⟨sA0, sc0, pA0, pc0, rfl, hsA1, hsA2, -⟩ := h.parts
  have D0_w := Lib.hid h
  clear h
  have Q0_w := Lib.hid ha
  clear ha
  obtain ⟨aA, aC, rfl, ha1, ha2, -⟩ := Q0_w.out
  go_enter Try.func8, Try.ntmps8
  go_wp2_with fail
  refine nameW fun W1 hW1 => ?_
  have kpW1 : Kp [w.heap.size] w W1 := by rw [hW1.out]; repeat (first | exact Kp.refl _ _ | refine Kp.alloc ?_ _ | refine Kp.setCell ?_ (by simp) _ _ | refine Kp.drew ?_ | refine Kp.drewN ?_ _)
  have bwW1 : Below w.heap.size w W1 := by rw [hW1.out]; repeat (first | exact Below.refl _ _ | refine Below.alloc ?_ (by (repeat (first | simp only [World.size_alloc] | simp only [size_set] | simp only [World.size_drew])); omega) _ | refine Below.setCell ?_ (by first | (dsimp only; omega) | omega) _ | refine Below.drew ?_ | refine below_drewN ?_ _)
  have szW1 : w.heap.size ≤ W1.heap.size := kpW1.size
  have Bx_W1 : Hid (W1.heap[w.heap.size]? = some (.cells #[.slice sA0 d.sectors.length sc0, .slice pA0 d.pending.length pc0, .int .i64 d.left, .bool d.stopped] 25 (0, 0))) := by show _ = _; rw [hW1.out]; (repeat (first | simp only [heap_drew] | simp only [World.heap_drewN] | simp only [heap_alloc_if] | simp only [heap_set_if] | simp only [World.size_alloc] | simp only [size_set] | simp only [World.size_drew])); (repeat (first | rw [if_pos trivial] | rw [if_pos (by omega)] | rw [if_neg (by omega)]))
  have ltx_W1 : w.heap.size < W1.heap.size := lt_heap Bx_W1.out
  have mkx : w.heap.size < W1.heap.size := ltx_W1
  have inW1 : InW [w.heap.size] W1 := by intro b hb; simp at hb; omega
  have D0_W1 := Lib.hid (((D0_w.out).box (by omega)).kp kpW1)
  have Q0_W1 := Lib.hid (((Q0_w.out).box (by omega)).kp kpW1)
  clear D0_w Q0_w
  have C1 := Lib.hid (sane_any W1)
  refine C1.out.mono ?_
  rintro e w1 ⟨rfl, hb1⟩
  have Bx_w1 := Lib.hid ((hb1.block (w.heap.size) (by omega)).trans Bx_W1.out)
  have ltx_w1 : w.heap.size < w1.heap.size := lt_heap Bx_w1.out
  have D0_w1 := Lib.hid (D0_W1.out.below hb1)
  have Q0_w1 := Lib.hid (Q0_W1.out.below hb1)
  have bww1 := Lib.hid (bwW1.trans (hb1.mono bwW1.size))
  have szw1 : W1.heap.size ≤ w1.heap.size := hb1.size
  clear Bx_W1 ltx_W1 D0_W1 Q0_W1
  clear kpW1 bwW1 inW1 hb1
  clear C1
  obtain ⟨⟨c0, c1, c2, c3⟩, ⟨cf0, cf1, cf2, cf3⟩⟩ := blk4 (Below.refl _ w1) Bx_w1.out (Nat.lt_succ_self _)
  go_wp2_with fail
  refine nameW fun W2 hW2 => ?_
  have kpW2 : Kp [w.heap.size] w1 W2 := by rw [hW2.out]; repeat (first | exact Kp.refl _ _ | refine Kp.alloc ?_ _ | refine Kp.setCell ?_ (by simp) _ _ | refine Kp.drew ?_ | refine Kp.drewN ?_ _)
  have bwW2 : Below w.heap.size w W2 := by rw [hW2.out]; repeat (first | exact bww1.out | refine Below.alloc ?_ (by (repeat (first | simp only [World.size_alloc] | simp only [size_set] | simp only [World.size_drew])); omega) _ | refine Below.setCell ?_ (by first | (dsimp only; omega) | omega) _ | refine Below.drew ?_ | refine below_drewN ?_ _)
  have szW2 : w1.heap.size ≤ W2.heap.size := kpW2.size
  have Bx_W2 : Hid (W2.heap[w.heap.size]? = some (.cells #[.slice sA0 d.sectors.length sc0, .slice pA0 d.pending.length pc0, .int .i64 d.left, .bool d.stopped] 25 (0, 0))) := by show _ = _; rw [hW2.out]; (repeat (first | simp only [heap_drew] | simp only [World.heap_drewN] | simp only [heap_alloc_if] | simp only [heap_set_if] | simp only [World.size_alloc] | simp only [size_set] | simp only [World.size_drew])); (repeat (first | rw [if_pos trivial] | rw [if_pos (by omega)] | rw [if_neg (by omega)])); exact Bx_w1.out
  have ltx_W2 : w.heap.size < W2.heap.size := lt_heap Bx_W2.out
  have inW2 : InW [w.heap.size] W2 := by intro b hb; simp at hb; omega
  have D0_W2 := Lib.hid ((D0_w1.out).kp kpW2)
  have Q0_W2 := Lib.hid ((Q0_w1.out).kp kpW2)
  clear Bx_w1 ltx_w1 D0_w1 Q0_w1 c0 c1 c2 c3 cf0 cf1 cf2 cf3
  have C2 := Lib.hid (few_any W2 (NB [w.heap.size]) d _ D0_W2.out hL)
  refine C2.out.mono ?_
  rintro e w2 ⟨fb, rfl, hsm, hb2⟩
  have HSM := Lib.hid hsm
  clear hsm
  have Bx_w2 := Lib.hid ((hb2.block (w.heap.size) (by omega)).trans Bx_W2.out)
  have ltx_w2 : w.heap.size < w2.heap.size := lt_heap Bx_w2.out
  have D0_w2 := Lib.hid (D0_W2.out.below hb2)
  have Q0_w2 := Lib.hid (Q0_W2.out.below hb2)
  have bww2 := Lib.hid (bwW2.trans (hb2.mono bwW2.size))
  have szw2 : W2.heap.size ≤ w2.heap.size := hb2.size
  clear Bx_W2 ltx_W2 D0_W2 Q0_W2
  clear kpW2 bwW2 inW2 hb2
  clear C2
  cases fb with
  | false =>
    go_wp2_with fail
    go_ret
    exact ⟨rfl, bww2.out⟩
  | true =>
    have hx1 : ¬ (20 : Int) < (ac.length : Int) := by omega
    have hx2 : (0 : Int) < (d.pending.length : Int) := by omega
    obtain ⟨⟨c0, c1, c2, c3⟩, ⟨cf0, cf1, cf2, cf3⟩⟩ := blk4 (Below.refl _ w2) Bx_w2.out (Nat.lt_succ_self _)
    go_wp2_with fail
    go_ret
    exact ⟨rfl, bww2.out⟩
set_option maxRecDepth 100000 in
set_option maxHeartbeats 2000000 in
theorem law8_r3 (w : World) (d : DiskD) (v : Value) (h : IsDisk w (NB []) v d) (hL : Lens d) (ac : List ActD) (u : Value) (ha : IsActs w (NB []) u ac) (hx0 : ac.length ≤ 20) (hx : d.pending.length ≤ 0) (hy : d.sectors.length ≤ 0) : Calls Try.prog 8 #[v, u] w fun e w' => e = .returned (.bool true) ∧ Below w.heap.size w w' := by
  obtain ⟨sA0, sc0, pA0, pc0, rfl, hsA1, hsA2, -⟩ := h.parts
  have D0_w := Lib.hid h
  clear h
  have Q0_w := Lib.hid ha
  clear ha
  obtain ⟨aA, aC, rfl, ha1, ha2, -⟩ := Q0_w.out
  go_enter Try.func8, Try.ntmps8
  go_wp2_with fail
  refine nameW fun W1 hW1 => ?_
  have kpW1 : Kp [w.heap.size] w W1 := by rw [hW1.out]; repeat (first | exact Kp.refl _ _ | refine Kp.alloc ?_ _ | refine Kp.setCell ?_ (by simp) _ _ | refine Kp.drew ?_ | refine Kp.drewN ?_ _)
  have bwW1 : Below w.heap.size w W1 := by rw [hW1.out]; repeat (first | exact Below.refl _ _ | refine Below.alloc ?_ (by (repeat (first | simp only [World.size_alloc] | simp only [size_set] | simp only [World.size_drew])); omega) _ | refine Below.setCell ?_ (by first | (dsimp only; omega) | omega) _ | refine Below.drew ?_ | refine below_drewN ?_ _)
  have szW1 : w.heap.size ≤ W1.heap.size := kpW1.size
  have Bx_W1 : Hid (W1.heap[w.heap.size]? = some (.cells #[.slice sA0 d.sectors.length sc0, .slice pA0 d.pending.length pc0, .int .i64 d.left, .bool d.stopped] 25 (0, 0))) := by show _ = _; rw [hW1.out]; (repeat (first | simp only [heap_drew] | simp only [World.heap_drewN] | simp only [heap_alloc_if] | simp only [heap_set_if] | simp only [World.size_alloc] | simp only [size_set] | simp only [World.size_drew])); (repeat (first | rw [if_pos trivial] | rw [if_pos (by omega)] | rw [if_neg (by omega)]))
  have ltx_W1 : w.heap.size < W1.heap.size := lt_heap Bx_W1.out
  have mkx : w.heap.size < W1.heap.size := ltx_W1
  have inW1 : InW [w.heap.size] W1 := by intro b hb; simp at hb; omega
  have D0_W1 := Lib.hid (((D0_w.out).box (by omega)).kp kpW1)
  have Q0_W1 := Lib.hid (((Q0_w.out).box (by omega)).kp kpW1)
  clear D0_w Q0_w
  have C1 := Lib.hid (sane_any W1)
  refine C1.out.mono ?_
  rintro e w1 ⟨rfl, hb1⟩
  have Bx_w1 := Lib.hid ((hb1.block (w.heap.size) (by omega)).trans Bx_W1.out)
  have ltx_w1 : w.heap.size < w1.heap.size := lt_heap Bx_w1.out
  have D0_w1 := Lib.hid (D0_W1.out.below hb1)
  have Q0_w1 := Lib.hid (Q0_W1.out.below hb1)
  have bww1 := Lib.hid (bwW1.trans (hb1.mono bwW1.size))
  have szw1 : W1.heap.size ≤ w1.heap.size := hb1.size
  clear Bx_W1 ltx_W1 D0_W1 Q0_W1
  clear kpW1 bwW1 inW1 hb1
  clear C1
  obtain ⟨⟨c0, c1, c2, c3⟩, ⟨cf0, cf1, cf2, cf3⟩⟩ := blk4 (Below.refl _ w1) Bx_w1.out (Nat.lt_succ_self _)
  go_wp2_with fail
  refine nameW fun W2 hW2 => ?_
  have kpW2 : Kp [w.heap.size] w1 W2 := by rw [hW2.out]; repeat (first | exact Kp.refl _ _ | refine Kp.alloc ?_ _ | refine Kp.setCell ?_ (by simp) _ _ | refine Kp.drew ?_ | refine Kp.drewN ?_ _)
  have bwW2 : Below w.heap.size w W2 := by rw [hW2.out]; repeat (first | exact bww1.out | refine Below.alloc ?_ (by (repeat (first | simp only [World.size_alloc] | simp only [size_set] | simp only [World.size_drew])); omega) _ | refine Below.setCell ?_ (by first | (dsimp only; omega) | omega) _ | refine Below.drew ?_ | refine below_drewN ?_ _)
  have szW2 : w1.heap.size ≤ W2.heap.size := kpW2.size
  have Bx_W2 : Hid (W2.heap[w.heap.size]? = some (.cells #[.slice sA0 d.sectors.length sc0, .slice pA0 d.pending.length pc0, .int .i64 d.left, .bool d.stopped] 25 (0, 0))) := by show _ = _; rw [hW2.out]; (repeat (first | simp only [heap_drew] | simp only [World.heap_drewN] | simp only [heap_alloc_if] | simp only [heap_set_if] | simp only [World.size_alloc] | simp only [size_set] | simp only [World.size_drew])); (repeat (first | rw [if_pos trivial] | rw [if_pos (by omega)] | rw [if_neg (by omega)])); exact Bx_w1.out
  have ltx_W2 : w.heap.size < W2.heap.size := lt_heap Bx_W2.out
  have inW2 : InW [w.heap.size] W2 := by intro b hb; simp at hb; omega
  have D0_W2 := Lib.hid ((D0_w1.out).kp kpW2)
  have Q0_W2 := Lib.hid ((Q0_w1.out).kp kpW2)
  clear Bx_w1 ltx_w1 D0_w1 Q0_w1 c0 c1 c2 c3 cf0 cf1 cf2 cf3
  have C2 := Lib.hid (few_any W2 (NB [w.heap.size]) d _ D0_W2.out hL)
  refine C2.out.mono ?_
  rintro e w2 ⟨fb, rfl, hsm, hb2⟩
  have HSM := Lib.hid hsm
  clear hsm
  have Bx_w2 := Lib.hid ((hb2.block (w.heap.size) (by omega)).trans Bx_W2.out)
  have ltx_w2 : w.heap.size < w2.heap.size := lt_heap Bx_w2.out
  have D0_w2 := Lib.hid (D0_W2.out.below hb2)
  have Q0_w2 := Lib.hid (Q0_W2.out.below hb2)
  have bww2 := Lib.hid (bwW2.trans (hb2.mono bwW2.size))
  have szw2 : W2.heap.size ≤ w2.heap.size := hb2.size
  clear Bx_W2 ltx_W2 D0_W2 Q0_W2
  clear kpW2 bwW2 inW2 hb2
  clear C2
  cases fb with
  | false =>
    go_wp2_with fail
    go_ret
    exact ⟨rfl, bww2.out⟩
  | true =>
    have hx1 : ¬ (20 : Int) < (ac.length : Int) := by omega
    have hx2 : ¬ (0 : Int) < (d.pending.length : Int) := by omega
    have hy2 : ((d.sectors.length : Int) == 0) = true := by rw [beq_iff_eq]; omega
    obtain ⟨⟨c0, c1, c2, c3⟩, ⟨cf0, cf1, cf2, cf3⟩⟩ := blk4 (Below.refl _ w2) Bx_w2.out (Nat.lt_succ_self _)
    go_wp2_with fail
    go_ret
    exact ⟨rfl, bww2.out⟩
set_option maxRecDepth 100000 in
set_option maxHeartbeats 2000000 in
theorem law8_r4 (w : World) (d : DiskD) (v : Value) (h : IsDisk w (NB []) v d) (hL : Lens d) (ac : List ActD) (u : Value) (ha : IsActs w (NB []) u ac) (hx0 : ac.length ≤ 20) (hx : d.pending.length ≤ 0) (hy : 0 < d.sectors.length) (ho : okB d = false) : Calls Try.prog 8 #[v, u] w fun e w' => e = .returned (.bool true) ∧ Below w.heap.size w w' := by
  obtain ⟨sA0, sc0, pA0, pc0, rfl, hsA1, hsA2, -⟩ := h.parts
  have D0_w := Lib.hid h
  clear h
  have Q0_w := Lib.hid ha
  clear ha
  obtain ⟨aA, aC, rfl, ha1, ha2, -⟩ := Q0_w.out
  have HNO := Lib.hid ho
  clear ho
  go_enter Try.func8, Try.ntmps8
  go_wp2_with fail
  refine nameW fun W1 hW1 => ?_
  have kpW1 : Kp [w.heap.size] w W1 := by rw [hW1.out]; repeat (first | exact Kp.refl _ _ | refine Kp.alloc ?_ _ | refine Kp.setCell ?_ (by simp) _ _ | refine Kp.drew ?_ | refine Kp.drewN ?_ _)
  have bwW1 : Below w.heap.size w W1 := by rw [hW1.out]; repeat (first | exact Below.refl _ _ | refine Below.alloc ?_ (by (repeat (first | simp only [World.size_alloc] | simp only [size_set] | simp only [World.size_drew])); omega) _ | refine Below.setCell ?_ (by first | (dsimp only; omega) | omega) _ | refine Below.drew ?_ | refine below_drewN ?_ _)
  have szW1 : w.heap.size ≤ W1.heap.size := kpW1.size
  have Bx_W1 : Hid (W1.heap[w.heap.size]? = some (.cells #[.slice sA0 d.sectors.length sc0, .slice pA0 d.pending.length pc0, .int .i64 d.left, .bool d.stopped] 25 (0, 0))) := by show _ = _; rw [hW1.out]; (repeat (first | simp only [heap_drew] | simp only [World.heap_drewN] | simp only [heap_alloc_if] | simp only [heap_set_if] | simp only [World.size_alloc] | simp only [size_set] | simp only [World.size_drew])); (repeat (first | rw [if_pos trivial] | rw [if_pos (by omega)] | rw [if_neg (by omega)]))
  have ltx_W1 : w.heap.size < W1.heap.size := lt_heap Bx_W1.out
  have mkx : w.heap.size < W1.heap.size := ltx_W1
  have inW1 : InW [w.heap.size] W1 := by intro b hb; simp at hb; omega
  have D0_W1 := Lib.hid (((D0_w.out).box (by omega)).kp kpW1)
  have Q0_W1 := Lib.hid (((Q0_w.out).box (by omega)).kp kpW1)
  clear D0_w Q0_w
  have C1 := Lib.hid (sane_any W1)
  refine C1.out.mono ?_
  rintro e w1 ⟨rfl, hb1⟩
  have Bx_w1 := Lib.hid ((hb1.block (w.heap.size) (by omega)).trans Bx_W1.out)
  have ltx_w1 : w.heap.size < w1.heap.size := lt_heap Bx_w1.out
  have D0_w1 := Lib.hid (D0_W1.out.below hb1)
  have Q0_w1 := Lib.hid (Q0_W1.out.below hb1)
  have bww1 := Lib.hid (bwW1.trans (hb1.mono bwW1.size))
  have szw1 : W1.heap.size ≤ w1.heap.size := hb1.size
  clear Bx_W1 ltx_W1 D0_W1 Q0_W1
  clear kpW1 bwW1 inW1 hb1
  clear C1
  obtain ⟨⟨c0, c1, c2, c3⟩, ⟨cf0, cf1, cf2, cf3⟩⟩ := blk4 (Below.refl _ w1) Bx_w1.out (Nat.lt_succ_self _)
  go_wp2_with fail
  refine nameW fun W2 hW2 => ?_
  have kpW2 : Kp [w.heap.size] w1 W2 := by rw [hW2.out]; repeat (first | exact Kp.refl _ _ | refine Kp.alloc ?_ _ | refine Kp.setCell ?_ (by simp) _ _ | refine Kp.drew ?_ | refine Kp.drewN ?_ _)
  have bwW2 : Below w.heap.size w W2 := by rw [hW2.out]; repeat (first | exact bww1.out | refine Below.alloc ?_ (by (repeat (first | simp only [World.size_alloc] | simp only [size_set] | simp only [World.size_drew])); omega) _ | refine Below.setCell ?_ (by first | (dsimp only; omega) | omega) _ | refine Below.drew ?_ | refine below_drewN ?_ _)
  have szW2 : w1.heap.size ≤ W2.heap.size := kpW2.size
  have Bx_W2 : Hid (W2.heap[w.heap.size]? = some (.cells #[.slice sA0 d.sectors.length sc0, .slice pA0 d.pending.length pc0, .int .i64 d.left, .bool d.stopped] 25 (0, 0))) := by show _ = _; rw [hW2.out]; (repeat (first | simp only [heap_drew] | simp only [World.heap_drewN] | simp only [heap_alloc_if] | simp only [heap_set_if] | simp only [World.size_alloc] | simp only [size_set] | simp only [World.size_drew])); (repeat (first | rw [if_pos trivial] | rw [if_pos (by omega)] | rw [if_neg (by omega)])); exact Bx_w1.out
  have ltx_W2 : w.heap.size < W2.heap.size := lt_heap Bx_W2.out
  have inW2 : InW [w.heap.size] W2 := by intro b hb; simp at hb; omega
  have D0_W2 := Lib.hid ((D0_w1.out).kp kpW2)
  have Q0_W2 := Lib.hid ((Q0_w1.out).kp kpW2)
  clear Bx_w1 ltx_w1 D0_w1 Q0_w1 c0 c1 c2 c3 cf0 cf1 cf2 cf3
  have C2 := Lib.hid (few_any W2 (NB [w.heap.size]) d _ D0_W2.out hL)
  refine C2.out.mono ?_
  rintro e w2 ⟨fb, rfl, hsm, hb2⟩
  have HSM := Lib.hid hsm
  clear hsm
  have Bx_w2 := Lib.hid ((hb2.block (w.heap.size) (by omega)).trans Bx_W2.out)
  have ltx_w2 : w.heap.size < w2.heap.size := lt_heap Bx_w2.out
  have D0_w2 := Lib.hid (D0_W2.out.below hb2)
  have Q0_w2 := Lib.hid (Q0_W2.out.below hb2)
  have bww2 := Lib.hid (bwW2.trans (hb2.mono bwW2.size))
  have szw2 : W2.heap.size ≤ w2.heap.size := hb2.size
  clear Bx_W2 ltx_W2 D0_W2 Q0_W2
  clear kpW2 bwW2 inW2 hb2
  clear C2
  cases fb with
  | false =>
    go_wp2_with fail
    go_ret
    exact ⟨rfl, bww2.out⟩
  | true =>
    have hx1 : ¬ (20 : Int) < (ac.length : Int) := by omega
    have hx2 : ¬ (0 : Int) < (d.pending.length : Int) := by omega
    have hy2 : ((d.sectors.length : Int) == 0) = false := by rw [beq_eq_false_iff_ne]; omega
    obtain ⟨⟨c0, c1, c2, c3⟩, ⟨cf0, cf1, cf2, cf3⟩⟩ := blk4 (Below.refl _ w2) Bx_w2.out (Nat.lt_succ_self _)
    go_wp2_with fail
    refine nameW fun W3 hW3 => ?_
    have kpW3 : Kp [w.heap.size] w2 W3 := by rw [hW3.out]; repeat (first | exact Kp.refl _ _ | refine Kp.alloc ?_ _ | refine Kp.setCell ?_ (by simp) _ _ | refine Kp.drew ?_ | refine Kp.drewN ?_ _)
    have bwW3 : Below w.heap.size w W3 := by rw [hW3.out]; repeat (first | exact bww2.out | refine Below.alloc ?_ (by (repeat (first | simp only [World.size_alloc] | simp only [size_set] | simp only [World.size_drew])); omega) _ | refine Below.setCell ?_ (by first | (dsimp only; omega) | omega) _ | refine Below.drew ?_ | refine below_drewN ?_ _)
    have szW3 : w2.heap.size ≤ W3.heap.size := kpW3.size
    have Bx_W3 : Hid (W3.heap[w.heap.size]? = some (.cells #[.slice sA0 d.sectors.length sc0, .slice pA0 d.pending.length pc0, .int .i64 d.left, .bool d.stopped] 25 (0, 0))) := by show _ = _; rw [hW3.out]; (repeat (first | simp only [heap_drew] | simp only [World.heap_drewN] | simp only [heap_alloc_if] | simp only [heap_set_if] | simp only [World.size_alloc] | simp only [size_set] | simp only [World.size_drew])); (repeat (first | rw [if_pos trivial] | rw [if_pos (by omega)] | rw [if_neg (by omega)])); exact Bx_w2.out
    have ltx_W3 : w.heap.size < W3.heap.size := lt_heap Bx_W3.out
    have inW3 : InW [w.heap.size] W3 := by intro b hb; simp at hb; omega
    have D0_W3 := Lib.hid ((D0_w2.out).kp kpW3)
    have Q0_W3 := Lib.hid ((Q0_w2.out).kp kpW3)
    clear Bx_w2 ltx_w2 D0_w2 Q0_w2 c0 c1 c2 c3 cf0 cf1 cf2 cf3
    have C3 := Lib.hid (check_any W3 _ d _ D0_W3.out)
    rw [chk_not HNO.out] at C3
    refine C3.out.mono ?_
    rintro e w3 ⟨rfl, hb3⟩
    have Bx_w3 := Lib.hid ((hb3.block (w.heap.size) (by omega)).trans Bx_W3.out)
    have ltx_w3 : w.heap.size < w3.heap.size := lt_heap Bx_w3.out
    have D0_w3 := Lib.hid (D0_W3.out.below hb3)
    have Q0_w3 := Lib.hid (Q0_W3.out.below hb3)
    have bww3 := Lib.hid (bwW3.trans (hb3.mono bwW3.size))
    have szw3 : W3.heap.size ≤ w3.heap.size := hb3.size
    clear Bx_W3 ltx_W3 D0_W3 Q0_W3
    clear kpW3 bwW3 inW3 hb3
    clear C3
    go_wp2_with fail
    go_ret
    exact ⟨rfl, bww3.out⟩
set_option maxRecDepth 100000 in
set_option maxHeartbeats 2000000 in
theorem law8_r5 (w : World) (d : DiskD) (v : Value) (h : IsDisk w (NB []) v d) (hL : Lens d) (ac : List ActD) (u : Value) (ha : IsActs w (NB []) u ac) (hx0 : ac.length ≤ 20) (hx : d.pending.length ≤ 0) (hy : 0 < d.sectors.length) (ho : okB d = true) (hst : d.stopped = true) : Calls Try.prog 8 #[v, u] w fun e w' => e = .returned (.bool true) ∧ Below w.heap.size w w' := by
  obtain ⟨sA0, sc0, pA0, pc0, rfl, hsA1, hsA2, -⟩ := h.parts
  have D0_w := Lib.hid h
  clear h
  have Q0_w := Lib.hid ha
  clear ha
  obtain ⟨aA, aC, rfl, ha1, ha2, -⟩ := Q0_w.out
  have HST := Lib.hid hst
  have HO := Lib.hid ho
  clear hst ho
  go_enter Try.func8, Try.ntmps8
  go_wp2_with fail
  refine nameW fun W1 hW1 => ?_
  have kpW1 : Kp [w.heap.size] w W1 := by rw [hW1.out]; repeat (first | exact Kp.refl _ _ | refine Kp.alloc ?_ _ | refine Kp.setCell ?_ (by simp) _ _ | refine Kp.drew ?_ | refine Kp.drewN ?_ _)
  have bwW1 : Below w.heap.size w W1 := by rw [hW1.out]; repeat (first | exact Below.refl _ _ | refine Below.alloc ?_ (by (repeat (first | simp only [World.size_alloc] | simp only [size_set] | simp only [World.size_drew])); omega) _ | refine Below.setCell ?_ (by first | (dsimp only; omega) | omega) _ | refine Below.drew ?_ | refine below_drewN ?_ _)
  have szW1 : w.heap.size ≤ W1.heap.size := kpW1.size
  have Bx_W1 : Hid (W1.heap[w.heap.size]? = some (.cells #[.slice sA0 d.sectors.length sc0, .slice pA0 d.pending.length pc0, .int .i64 d.left, .bool d.stopped] 25 (0, 0))) := by show _ = _; rw [hW1.out]; (repeat (first | simp only [heap_drew] | simp only [World.heap_drewN] | simp only [heap_alloc_if] | simp only [heap_set_if] | simp only [World.size_alloc] | simp only [size_set] | simp only [World.size_drew])); (repeat (first | rw [if_pos trivial] | rw [if_pos (by omega)] | rw [if_neg (by omega)]))
  have ltx_W1 : w.heap.size < W1.heap.size := lt_heap Bx_W1.out
  have mkx : w.heap.size < W1.heap.size := ltx_W1
  have inW1 : InW [w.heap.size] W1 := by intro b hb; simp at hb; omega
  have D0_W1 := Lib.hid (((D0_w.out).box (by omega)).kp kpW1)
  have Q0_W1 := Lib.hid (((Q0_w.out).box (by omega)).kp kpW1)
  clear D0_w Q0_w
  have C1 := Lib.hid (sane_any W1)
  refine C1.out.mono ?_
  rintro e w1 ⟨rfl, hb1⟩
  have Bx_w1 := Lib.hid ((hb1.block (w.heap.size) (by omega)).trans Bx_W1.out)
  have ltx_w1 : w.heap.size < w1.heap.size := lt_heap Bx_w1.out
  have D0_w1 := Lib.hid (D0_W1.out.below hb1)
  have Q0_w1 := Lib.hid (Q0_W1.out.below hb1)
  have bww1 := Lib.hid (bwW1.trans (hb1.mono bwW1.size))
  have szw1 : W1.heap.size ≤ w1.heap.size := hb1.size
  clear Bx_W1 ltx_W1 D0_W1 Q0_W1
  clear kpW1 bwW1 inW1 hb1
  clear C1
  obtain ⟨⟨c0, c1, c2, c3⟩, ⟨cf0, cf1, cf2, cf3⟩⟩ := blk4 (Below.refl _ w1) Bx_w1.out (Nat.lt_succ_self _)
  go_wp2_with fail
  refine nameW fun W2 hW2 => ?_
  have kpW2 : Kp [w.heap.size] w1 W2 := by rw [hW2.out]; repeat (first | exact Kp.refl _ _ | refine Kp.alloc ?_ _ | refine Kp.setCell ?_ (by simp) _ _ | refine Kp.drew ?_ | refine Kp.drewN ?_ _)
  have bwW2 : Below w.heap.size w W2 := by rw [hW2.out]; repeat (first | exact bww1.out | refine Below.alloc ?_ (by (repeat (first | simp only [World.size_alloc] | simp only [size_set] | simp only [World.size_drew])); omega) _ | refine Below.setCell ?_ (by first | (dsimp only; omega) | omega) _ | refine Below.drew ?_ | refine below_drewN ?_ _)
  have szW2 : w1.heap.size ≤ W2.heap.size := kpW2.size
  have Bx_W2 : Hid (W2.heap[w.heap.size]? = some (.cells #[.slice sA0 d.sectors.length sc0, .slice pA0 d.pending.length pc0, .int .i64 d.left, .bool d.stopped] 25 (0, 0))) := by show _ = _; rw [hW2.out]; (repeat (first | simp only [heap_drew] | simp only [World.heap_drewN] | simp only [heap_alloc_if] | simp only [heap_set_if] | simp only [World.size_alloc] | simp only [size_set] | simp only [World.size_drew])); (repeat (first | rw [if_pos trivial] | rw [if_pos (by omega)] | rw [if_neg (by omega)])); exact Bx_w1.out
  have ltx_W2 : w.heap.size < W2.heap.size := lt_heap Bx_W2.out
  have inW2 : InW [w.heap.size] W2 := by intro b hb; simp at hb; omega
  have D0_W2 := Lib.hid ((D0_w1.out).kp kpW2)
  have Q0_W2 := Lib.hid ((Q0_w1.out).kp kpW2)
  clear Bx_w1 ltx_w1 D0_w1 Q0_w1 c0 c1 c2 c3 cf0 cf1 cf2 cf3
  have C2 := Lib.hid (few_any W2 (NB [w.heap.size]) d _ D0_W2.out hL)
  refine C2.out.mono ?_
  rintro e w2 ⟨fb, rfl, hsm, hb2⟩
  have HSM := Lib.hid hsm
  clear hsm
  have Bx_w2 := Lib.hid ((hb2.block (w.heap.size) (by omega)).trans Bx_W2.out)
  have ltx_w2 : w.heap.size < w2.heap.size := lt_heap Bx_w2.out
  have D0_w2 := Lib.hid (D0_W2.out.below hb2)
  have Q0_w2 := Lib.hid (Q0_W2.out.below hb2)
  have bww2 := Lib.hid (bwW2.trans (hb2.mono bwW2.size))
  have szw2 : W2.heap.size ≤ w2.heap.size := hb2.size
  clear Bx_W2 ltx_W2 D0_W2 Q0_W2
  clear kpW2 bwW2 inW2 hb2
  clear C2
  cases fb with
  | false =>
    go_wp2_with fail
    go_ret
    exact ⟨rfl, bww2.out⟩
  | true =>
    have hx1 : ¬ (20 : Int) < (ac.length : Int) := by omega
    have hx2 : ¬ (0 : Int) < (d.pending.length : Int) := by omega
    have hy2 : ((d.sectors.length : Int) == 0) = false := by rw [beq_eq_false_iff_ne]; omega
    obtain ⟨⟨c0, c1, c2, c3⟩, ⟨cf0, cf1, cf2, cf3⟩⟩ := blk4 (Below.refl _ w2) Bx_w2.out (Nat.lt_succ_self _)
    go_wp2_with fail
    refine nameW fun W3 hW3 => ?_
    have kpW3 : Kp [w.heap.size] w2 W3 := by rw [hW3.out]; repeat (first | exact Kp.refl _ _ | refine Kp.alloc ?_ _ | refine Kp.setCell ?_ (by simp) _ _ | refine Kp.drew ?_ | refine Kp.drewN ?_ _)
    have bwW3 : Below w.heap.size w W3 := by rw [hW3.out]; repeat (first | exact bww2.out | refine Below.alloc ?_ (by (repeat (first | simp only [World.size_alloc] | simp only [size_set] | simp only [World.size_drew])); omega) _ | refine Below.setCell ?_ (by first | (dsimp only; omega) | omega) _ | refine Below.drew ?_ | refine below_drewN ?_ _)
    have szW3 : w2.heap.size ≤ W3.heap.size := kpW3.size
    have Bx_W3 : Hid (W3.heap[w.heap.size]? = some (.cells #[.slice sA0 d.sectors.length sc0, .slice pA0 d.pending.length pc0, .int .i64 d.left, .bool d.stopped] 25 (0, 0))) := by show _ = _; rw [hW3.out]; (repeat (first | simp only [heap_drew] | simp only [World.heap_drewN] | simp only [heap_alloc_if] | simp only [heap_set_if] | simp only [World.size_alloc] | simp only [size_set] | simp only [World.size_drew])); (repeat (first | rw [if_pos trivial] | rw [if_pos (by omega)] | rw [if_neg (by omega)])); exact Bx_w2.out
    have ltx_W3 : w.heap.size < W3.heap.size := lt_heap Bx_W3.out
    have inW3 : InW [w.heap.size] W3 := by intro b hb; simp at hb; omega
    have D0_W3 := Lib.hid ((D0_w2.out).kp kpW3)
    have Q0_W3 := Lib.hid ((Q0_w2.out).kp kpW3)
    clear Bx_w2 ltx_w2 D0_w2 Q0_w2 c0 c1 c2 c3 cf0 cf1 cf2 cf3
    have C3 := Lib.hid (check_any W3 _ d _ D0_W3.out)
    rw [chk_of HO.out] at C3
    refine C3.out.mono ?_
    rintro e w3 ⟨rfl, hb3⟩
    have Bx_w3 := Lib.hid ((hb3.block (w.heap.size) (by omega)).trans Bx_W3.out)
    have ltx_w3 : w.heap.size < w3.heap.size := lt_heap Bx_w3.out
    have D0_w3 := Lib.hid (D0_W3.out.below hb3)
    have Q0_w3 := Lib.hid (Q0_W3.out.below hb3)
    have bww3 := Lib.hid (bwW3.trans (hb3.mono bwW3.size))
    have szw3 : W3.heap.size ≤ w3.heap.size := hb3.size
    clear Bx_W3 ltx_W3 D0_W3 Q0_W3
    clear kpW3 bwW3 inW3 hb3
    clear C3
    obtain ⟨⟨c0, c1, c2, c3⟩, ⟨cf0, cf1, cf2, cf3⟩⟩ := blk4 (Below.refl _ w3) Bx_w3.out (Nat.lt_succ_self _)
    rw [HST.out] at c3
    go_wp2_with fail
    go_ret
    exact ⟨rfl, bww3.out⟩

def actW (n : Nat) (a : ActD) : Int × UInt8 := ((a.pos.toNat : Int) % (n : Int), a.byte)
def XF (d : DiskD) (ac : List ActD) (k : Nat) : DiskD × Int := tone ((ac.take k).map (actW d.sectors.length)) d
def YF (d : DiskD) (ac : List ActD) (k : Nat) : DiskD := tall ((ac.take k).map (actW d.sectors.length)) d
section
variable {d : DiskD} {ac : List ActD}
theorem take_map_succ {k : Nat} (hk : k < ac.length) : (ac.take (k + 1)).map (actW d.sectors.length) = (ac.take k).map (actW d.sectors.length) ++ [actW d.sectors.length ac[k]] := by
  rw [List.take_succ_eq_append_getElem hk, List.map_append]; rfl
theorem acts_has (hr : runsB d = true) (k : Nat) : ∀ p ∈ (ac.take k).map (actW d.sectors.length), hasB d p.1 = true := by
  intro p hp
  obtain ⟨a, -, rfl⟩ := List.mem_map.1 hp
  have h1 := (okB_iff.1 (runsB_iff.1 hr).1).1.1
  exact hasB_iff.2 ⟨Int.emod_nonneg _ (by omega), Int.emod_lt_of_pos _ (by omega)⟩
theorem xf_zero : XF d ac 0 = (d, 0) := rfl
theorem xf_step (hr : runsB d = true) (hp : d.pending = []) (hl : ac.length ≤ 20) {k : Nat} (hk : k < ac.length) (h0 : (XF d ac k).2 = 0) :
    writeD (XF d ac k).1 (actW d.sectors.length ac[k]).1 [(ac[k]).byte] = (wrote (XF d ac k).1 (actW d.sectors.length ac[k]).1 [(ac[k]).byte], 0) ∧ syncD (wrote (XF d ac k).1 (actW d.sectors.length ac[k]).1 [(ac[k]).byte]) = XF d ac (k + 1) := by
  have hk20 : ((ac.take k).map (actW d.sectors.length)).length ≤ 20 := by simp; omega
  obtain ⟨h1, h2, h3⟩ := tone_runs hr hp _ (acts_has hr k) hk20 h0
  have hh := acts_has (ac := ac) hr (k + 1) (actW d.sectors.length ac[k]) (by rw [take_map_succ hk]; simp)
  have hh' : hasB (XF d ac k).1 (actW d.sectors.length ac[k]).1 = true := by
    have e : (XF d ac k).1.sectors.length = d.sectors.length := h3
    unfold hasB at hh ⊢; rw [e]; exact hh
  have hpn : (XF d ac k).1.pending = [] := h2
  refine ⟨writeD_yes h1 hh' (by simp) (by rw [hpn]; simp), ?_⟩
  unfold XF
  rw [take_map_succ hk, tone_snoc]
  have h0' : (tone ((ac.take k).map (actW d.sectors.length)) d).2 = 0 := h0
  rw [if_pos h0']
  rfl
theorem xf_end {k : Nat} (h : (XF d ac k).2 ≠ 0) : XF d ac ac.length = XF d ac k := by
  unfold XF at h ⊢
  have e : ac.take ac.length = ac.take k ++ ac.drop k := by rw [List.take_length, List.take_append_drop]
  rw [e, List.map_append]
  exact tone_fail h
theorem yf_step (hr : runsB d = true) (hp : d.pending = []) (hl : ac.length ≤ 20) {k : Nat} (hk : k < ac.length) :
    writeD (YF d ac k) (actW d.sectors.length ac[k]).1 [(ac[k]).byte] = (YF d ac (k + 1), 0) := by
  obtain ⟨h1, h2, h3, -⟩ := tinv hr hp ((ac.take k).map (actW d.sectors.length)) (acts_has hr k) (by simp; omega)
  have hh := acts_has (ac := ac) hr (k + 1) (actW d.sectors.length ac[k]) (by rw [take_map_succ hk]; simp)
  have hh' : hasB (YF d ac k) (actW d.sectors.length ac[k]).1 = true := by
    have e : (YF d ac k).sectors = d.sectors := h3
    unfold hasB at hh ⊢; rw [e]; exact hh
  have e2 : (YF d ac k).pending.length = ((ac.take k).map (actW d.sectors.length)).length := h2
  have h1' : runsB (YF d ac k) = true := h1
  rw [writeD_yes h1' hh' (by simp) (by rw [e2]; simp; omega)]
  unfold YF
  rw [take_map_succ hk, tall_snoc]
  rfl
theorem xy_end (hr : runsB d = true) (hp : d.pending = []) (hl : ac.length ≤ 20) : syncD (YF d ac ac.length) = XF d ac ac.length :=
  (tone_eq hr hp _ (acts_has hr _) (by simp; omega)).symm
end
end Go.Proofs.Ytjmafnkknohinaa
