import Derived.Test.YtjmafnkknohinaaK6
namespace Go.Proofs.Ytjmafnkknohinaa
open Go.RowKit Go.Shelf Go.Deep

theorem off4 {w : World} {c j g : Nat} {a0 a1 a2 a3 : Value} (hc : c ≠ g) : ((((w.setCell ⟨g, 0, none⟩ a0).setCell ⟨g, 1, none⟩ a1).setCell ⟨g, 2, none⟩ a2).setCell ⟨g, 3, none⟩ a3).cell? ⟨c, j, none⟩ = w.cell? ⟨c, j, none⟩ :=
  ((((Off.refl g w).setCell _ _).setCell _ _).setCell _ _).setCell _ _ _ hc
theorem blk_off4 {w : World} {b g : Nat} {a0 a1 a2 a3 : Value} (hb : b ≠ g) : ((((w.setCell ⟨g, 0, none⟩ a0).setCell ⟨g, 1, none⟩ a1).setCell ⟨g, 2, none⟩ a2).setCell ⟨g, 3, none⟩ a3).heap[b]? = w.heap[b]? := by
  rw [Below.heap_setCell _ _ _ _ hb, Below.heap_setCell _ _ _ _ hb, Below.heap_setCell _ _ _ _ hb, Below.heap_setCell _ _ _ _ hb]
theorem NB.ge2 {l : List Nat} {n b : Nat} (h : NB l b) (hn : b ≠ n) : NB (n :: l) b := fun e => by
  rcases List.mem_cons.1 e with e | e
  · exact hn e
  · exact h e
def RetQ (l : List Nat) (W : World) (Z : DiskD) (e : Ending) (w' : World) : Prop := ∃ sA sc pA pc, e = .returned (.tuple #[.agg #[.slice sA Z.sectors.length sc, .slice pA Z.pending.length pc, .int .i64 Z.left, .bool Z.stopped], .int .i64 0]) ∧
    IsDisk w' (NB l) (.agg #[.slice sA Z.sectors.length sc, .slice pA Z.pending.length pc, .int .i64 Z.left, .bool Z.stopped]) Z ∧ Below W.heap.size W w'
theorem writeQ {l : List Nat} {v : Value} {dd Z : DiskD} {x : Int} {b : UInt8} (W : World) (hD : IsDisk W (NB l) v dd) (hl : InW l W) (hz : writeD dd x [b] = (Z, 0)) (g : Nat) (hg : W.heap[g]? = some (.cells #[.int .u8 (b.toNat : Int)] 5 (0, 0))) (hge : NB l g) :
    Calls Try.prog 19 #[v, .int .i64 x, .slice (some ⟨g, 0, none⟩) 1 1] W (RetQ l W Z) := by
  have C := write_l l W hl dd v hD x [b] _ (bytes_one hg hge)
  rw [hz] at C
  refine C.mono ?_
  rintro e w' ⟨v', rfl, hd, hb⟩
  obtain ⟨sA, sc, pA, pc, rfl, -⟩ := hd.parts
  exact ⟨sA, sc, pA, pc, rfl, hd, hb⟩
theorem keep5 {w : World} {b g b' o : Nat} {x y z u r a0 a1 a2 a3 : Value} (hb : b ≠ g) (hb' : b' ≠ g) (e0 : w.cell? ⟨b, 0, none⟩ = some x) (e1 : w.cell? ⟨b, 1, none⟩ = some y) (e2 : w.cell? ⟨b, 2, none⟩ = some z) (e3 : w.cell? ⟨b, 3, none⟩ = some u) (e4 : w.cell? ⟨b', o, none⟩ = some r) :
    ((((w.setCell ⟨g, 0, none⟩ a0).setCell ⟨g, 1, none⟩ a1).setCell ⟨g, 2, none⟩ a2).setCell ⟨g, 3, none⟩ a3).cell? ⟨b, 0, none⟩ = some x ∧
    ((((w.setCell ⟨g, 0, none⟩ a0).setCell ⟨g, 1, none⟩ a1).setCell ⟨g, 2, none⟩ a2).setCell ⟨g, 3, none⟩ a3).cell? ⟨b, 1, none⟩ = some y ∧
    ((((w.setCell ⟨g, 0, none⟩ a0).setCell ⟨g, 1, none⟩ a1).setCell ⟨g, 2, none⟩ a2).setCell ⟨g, 3, none⟩ a3).cell? ⟨b, 2, none⟩ = some z ∧
    ((((w.setCell ⟨g, 0, none⟩ a0).setCell ⟨g, 1, none⟩ a1).setCell ⟨g, 2, none⟩ a2).setCell ⟨g, 3, none⟩ a3).cell? ⟨b, 3, none⟩ = some u ∧
    ((((w.setCell ⟨g, 0, none⟩ a0).setCell ⟨g, 1, none⟩ a1).setCell ⟨g, 2, none⟩ a2).setCell ⟨g, 3, none⟩ a3).cell? ⟨b', o, none⟩ = some r := by
  have h : ∀ c j, c ≠ g → ((((w.setCell ⟨g, 0, none⟩ a0).setCell ⟨g, 1, none⟩ a1).setCell ⟨g, 2, none⟩ a2).setCell ⟨g, 3, none⟩ a3).cell? ⟨c, j, none⟩ = w.cell? ⟨c, j, none⟩ := fun c j hc =>
    ((((Off.refl g w).setCell _ _).setCell _ _).setCell _ _).setCell _ _ _ hc
  exact ⟨(h b 0 hb).trans e0, (h b 1 hb).trans e1, (h b 2 hb).trans e2, (h b 3 hb).trans e3, (h b' o hb').trans e4⟩
theorem cutQ {wq w6 : World} {g : Nat} {l : List Nat} {a0 a1 a2 a3 b0 b1 b2 b3 : Value} {Z : DiskD} (hg : wq.heap.size ≤ g) (K : w6.heap[g]? = some (.cells #[b0, b1, b2, b3] 25 (0, 0))) (HD : IsDisk w6 (NB (g :: l)) (.agg #[a0, a1, a2, a3]) Z) (HB : Below wq.heap.size wq w6) :
    ((((w6.setCell ⟨g, 0, none⟩ a0).setCell ⟨g, 1, none⟩ a1).setCell ⟨g, 2, none⟩ a2).setCell ⟨g, 3, none⟩ a3).heap[g]? = some (.cells #[a0, a1, a2, a3] 25 (0, 0)) ∧
    IsDisk ((((w6.setCell ⟨g, 0, none⟩ a0).setCell ⟨g, 1, none⟩ a1).setCell ⟨g, 2, none⟩ a2).setCell ⟨g, 3, none⟩ a3) (NB l) (.agg #[a0, a1, a2, a3]) Z ∧
    Below wq.heap.size wq ((((w6.setCell ⟨g, 0, none⟩ a0).setCell ⟨g, 1, none⟩ a1).setCell ⟨g, 2, none⟩ a2).setCell ⟨g, 3, none⟩ a3) := by
  refine ⟨set4 K _ _ _ _, (HD.keep fun p hp _ => ?_).mono fun b _ hb => fun e => hb (List.mem_cons_of_mem _ e), (((HB.setCell hg _).setCell hg _).setCell hg _).setCell hg _⟩
  exact ((((Off.refl g w6).setCell _ _).setCell _ _).setCell _ _).setCell _ _ p (fun e => hp (by rw [e]; exact List.mem_cons_self))
theorem two_alloc (w3 : World) (o : Obj) : ((w3.alloc o).alloc o).drew.heap[w3.heap.size]? = some o ∧ ((w3.alloc o).alloc o).drew.heap[w3.heap.size + 1]? = some o ∧ ((w3.alloc o).alloc o).drew.heap.size = w3.heap.size + 2 ∧ Below w3.heap.size w3 ((w3.alloc o).alloc o).drew :=
  ⟨heap2_0 w3 o o, heap2_1 w3 o o, by simp, (((Below.refl _ w3).alloc (Nat.le_refl _) _).alloc (by simp) _).drew⟩
set_option maxRecDepth 100000 in
set_option maxHeartbeats 2000000 in
theorem law8_go (w : World) (d : DiskD) (v : Value) (h : IsDisk w (NB []) v d) (hL : Lens d) (ac : List ActD) (u : Value) (ha : IsActs w (NB []) u ac) (hr : runsB d = true) (hp : d.pending = []) (hx0 : ac.length ≤ 20) : Calls Try.prog 8 #[v, u] w fun e w' => e = .returned (.bool true) ∧ Below w.heap.size w w' := by
  obtain ⟨sA0, sc0, pA0, pc0, rfl, hsA1, hsA2, -⟩ := h.parts
  have D0_w := Lib.hid h
  clear h
  have Q0_w := Lib.hid ha
  clear ha
  obtain ⟨aA, aC, rfl, ha1, ha2, -⟩ := Q0_w.out
  have HR := Lib.hid hr
  have HP := Lib.hid hp
  have hch : chk d = 0 := chk_runs hr
  have hst : d.stopped = false := (runsB_iff.1 hr).2
  have hse : 0 < d.sectors.length := by have := (okB_iff.1 (runsB_iff.1 hr).1).1.1; omega
  have hse2 : d.sectors.length ≤ 4096 := (okB_iff.1 (runsB_iff.1 hr).1).1.2.1
  have hpe : d.pending.length ≤ 0 := by rw [hp]; simp
  have HCH := Lib.hid hch
  have HST := Lib.hid hst
  clear hr hp hch hst
  go_enter Try.func8, Try.ntmps8
  go_wp2_with fail
  refine nameW fun W1 hW1 => ?_
  have kpW1 : Kp [w.heap.size] w W1 := by rw [hW1.out]; repeat (first | exact Kp.refl _ _ | refine Kp.alloc ?_ _ | refine Kp.setCell ?_ (by simp) _ _ | refine Kp.drew ?_ | refine Kp.drewN ?_ _)
  have bwW1 : Below w.heap.size w W1 := by rw [hW1.out]; repeat (first | exact Below.refl _ _ | refine Below.alloc ?_ (by (repeat (first | simp only [World.size_alloc] | simp only [size_set] | simp only [World.size_drew])); omega) _ | refine Below.setCell ?_ (by first | (dsimp only; omega) | omega) _ | refine Below.drew ?_ | refine below_drewN ?_ _)
  have szW1 : w.heap.size ≤ W1.heap.size := kpW1.size
  have Bx_W1 : Hid (W1.heap[w.heap.size]? = some (.cells #[.slice sA0 d.sectors.length sc0, .slice pA0 d.pending.length pc0, .int .i64 d.left, .bool d.stopped] 25 (0, 0))) := by show _ = _; rw [hW1.out]; (repeat (first | simp only [heap_drew] | simp only [World.heap_drewN] | simp only [heap_alloc_if] | simp only [heap_set_if] | simp only [World.size_alloc] | simp only [size_set] | simp only [World.size_drew])); (repeat (first | rw [if_pos trivial] | rw [if_pos (by omega)] | rw [if_neg (by omega)]))
  have ltx_W1 : w.heap.size < W1.heap.size := lt_heap Bx_W1.out
  have mkx : w.heap.size < W1.heap.size := ltx_W1
  have inW1 : InW [w.heap.size] W1 := by intro b hb; simp at hb; omega
  have D0_W1 := Lib.hid (((D0_w.out).box (by omega)).kp kpW1)
  have Q0_W1 := Lib.hid (((Q0_w.out).box (by omega)).kp kpW1)
  clear D0_w Q0_w
  have C1 := Lib.hid (sane_any W1)
  refine C1.out.mono ?_
  rintro e w1 ⟨rfl, hb1⟩
  have Bx_w1 := Lib.hid ((hb1.block (w.heap.size) (by omega)).trans Bx_W1.out)
  have ltx_w1 : w.heap.size < w1.heap.size := lt_heap Bx_w1.out
  have D0_w1 := Lib.hid (D0_W1.out.below hb1)
  have Q0_w1 := Lib.hid (Q0_W1.out.below hb1)
  have bww1 := Lib.hid (bwW1.trans (hb1.mono bwW1.size))
  have szw1 : W1.heap.size ≤ w1.heap.size := hb1.size
  clear Bx_W1 ltx_W1 D0_W1 Q0_W1
  clear kpW1 bwW1 inW1 hb1
  clear C1
  obtain ⟨⟨c0, c1, c2, c3⟩, ⟨cf0, cf1, cf2, cf3⟩⟩ := blk4 (Below.refl _ w1) Bx_w1.out (Nat.lt_succ_self _)
  go_wp2_with fail
  refine nameW fun W2 hW2 => ?_
  have kpW2 : Kp [w.heap.size] w1 W2 := by rw [hW2.out]; repeat (first | exact Kp.refl _ _ | refine Kp.alloc ?_ _ | refine Kp.setCell ?_ (by simp) _ _ | refine Kp.drew ?_ | refine Kp.drewN ?_ _)
  have bwW2 : Below w.heap.size w W2 := by rw [hW2.out]; repeat (first | exact bww1.out | refine Below.alloc ?_ (by (repeat (first | simp only [World.size_alloc] | simp only [size_set] | simp only [World.size_drew])); omega) _ | refine Below.setCell ?_ (by first | (dsimp only; omega) | omega) _ | refine Below.drew ?_ | refine below_drewN ?_ _)
  have szW2 : w1.heap.size ≤ W2.heap.size := kpW2.size
  have Bx_W2 : Hid (W2.heap[w.heap.size]? = some (.cells #[.slice sA0 d.sectors.length sc0, .slice pA0 d.pending.length pc0, .int .i64 d.left, .bool d.stopped] 25 (0, 0))) := by show _ = _; rw [hW2.out]; (repeat (first | simp only [heap_drew] | simp only [World.heap_drewN] | simp only [heap_alloc_if] | simp only [heap_set_if] | simp only [World.size_alloc] | simp only [size_set] | simp only [World.size_drew])); (repeat (first | rw [if_pos trivial] | rw [if_pos (by omega)] | rw [if_neg (by omega)])); exact Bx_w1.out
  have ltx_W2 : w.heap.size < W2.heap.size := lt_heap Bx_W2.out
  have inW2 : InW [w.heap.size] W2 := by intro b hb; simp at hb; omega
  have D0_W2 := Lib.hid ((D0_w1.out).kp kpW2)
  have Q0_W2 := Lib.hid ((Q0_w1.out).kp kpW2)
  clear Bx_w1 ltx_w1 D0_w1 Q0_w1 c0 c1 c2 c3 cf0 cf1 cf2 cf3
  have C2 := Lib.hid (few_any W2 (NB [w.heap.size]) d _ D0_W2.out hL)
  refine C2.out.mono ?_
  rintro e w2 ⟨fb, rfl, hsm, hb2⟩
  have HSM := Lib.hid hsm
  clear hsm
  have Bx_w2 := Lib.hid ((hb2.block (w.heap.size) (by omega)).trans Bx_W2.out)
  have ltx_w2 : w.heap.size < w2.heap.size := lt_heap Bx_w2.out
  have D0_w2 := Lib.hid (D0_W2.out.below hb2)
  have Q0_w2 := Lib.hid (Q0_W2.out.below hb2)
  have bww2 := Lib.hid (bwW2.trans (hb2.mono bwW2.size))
  have szw2 : W2.heap.size ≤ w2.heap.size := hb2.size
  clear Bx_W2 ltx_W2 D0_W2 Q0_W2
  clear kpW2 bwW2 inW2 hb2
  clear C2
  cases fb with
  | false =>
    go_wp2_with fail
    go_ret
    exact ⟨rfl, bww2.out⟩
  | true =>
    have hx1 : ¬ (20 : Int) < (ac.length : Int) := by omega
    have hx2 : ¬ (0 : Int) < (d.pending.length : Int) := by omega
    have hy2 : ((d.sectors.length : Int) == 0) = false := by rw [beq_eq_false_iff_ne]; omega
    obtain ⟨⟨c0, c1, c2, c3⟩, ⟨cf0, cf1, cf2, cf3⟩⟩ := blk4 (Below.refl _ w2) Bx_w2.out (Nat.lt_succ_self _)
    go_wp2_with fail
    refine nameW fun W3 hW3 => ?_
    have kpW3 : Kp [w.heap.size] w2 W3 := by rw [hW3.out]; repeat (first | exact Kp.refl _ _ | refine Kp.alloc ?_ _ | refine Kp.setCell ?_ (by simp) _ _ | refine Kp.drew ?_ | refine Kp.drewN ?_ _)
    have bwW3 : Below w.heap.size w W3 := by rw [hW3.out]; repeat (first | exact bww2.out | refine Below.alloc ?_ (by (repeat (first | simp only [World.size_alloc] | simp only [size_set] | simp only [World.size_drew])); omega) _ | refine Below.setCell ?_ (by first | (dsimp only; omega) | omega) _ | refine Below.drew ?_ | refine below_drewN ?_ _)
    have szW3 : w2.heap.size ≤ W3.heap.size := kpW3.size
    have Bx_W3 : Hid (W3.heap[w.heap.size]? = some (.cells #[.slice sA0 d.sectors.length sc0, .slice pA0 d.pending.length pc0, .int .i64 d.left, .bool d.stopped] 25 (0, 0))) := by show _ = _; rw [hW3.out]; (repeat (first | simp only [heap_drew] | simp only [World.heap_drewN] | simp only [heap_alloc_if] | simp only [heap_set_if] | simp only [World.size_alloc] | simp only [size_set] | simp only [World.size_drew])); (repeat (first | rw [if_pos trivial] | rw [if_pos (by omega)] | rw [if_neg (by omega)])); exact Bx_w2.out
    have ltx_W3 : w.heap.size < W3.heap.size := lt_heap Bx_W3.out
    have inW3 : InW [w.heap.size] W3 := by intro b hb; simp at hb; omega
    have D0_W3 := Lib.hid ((D0_w2.out).kp kpW3)
    have Q0_W3 := Lib.hid ((Q0_w2.out).kp kpW3)
    clear Bx_w2 ltx_w2 D0_w2 Q0_w2 c0 c1 c2 c3 cf0 cf1 cf2 cf3
    have C3 := Lib.hid (check_any W3 _ d _ D0_W3.out)
    rw [HCH.out] at C3
    refine C3.out.mono ?_
    rintro e w3 ⟨rfl, hb3⟩
    have Bx_w3 := Lib.hid ((hb3.block (w.heap.size) (by omega)).trans Bx_W3.out)
    have ltx_w3 : w.heap.size < w3.heap.size := lt_heap Bx_w3.out
    have D0_w3 := Lib.hid (D0_W3.out.below hb3)
    have Q0_w3 := Lib.hid (Q0_W3.out.below hb3)
    have bww3 := Lib.hid (bwW3.trans (hb3.mono bwW3.size))
    have szw3 : W3.heap.size ≤ w3.heap.size := hb3.size
    clear Bx_W3 ltx_W3 D0_W3 Q0_W3
    clear kpW3 bwW3 inW3 hb3
    clear C3
    obtain ⟨⟨c0, c1, c2, c3⟩, ⟨cf0, cf1, cf2, cf3⟩⟩ := blk4 (Below.refl _ w3) Bx_w3.out (Nat.lt_succ_self _)
    have C3S := Lib.hid c3
    rw [HST.out] at c3
    go_upto_region 5 with fail
    replace c3 := C3S.out
    go_cut [5, 6] (fun s5 s6 wx => ∃ g5 g6 : Nat, s5 = .pointer (some ⟨g5, 0, none⟩) ∧ s6 = .pointer (some ⟨g6, 0, none⟩) ∧ Hid (((g5 = w3.heap.size ∧ g6 = w3.heap.size + 1) ∨ (g5 = w3.heap.size + 1 ∧ g6 = w3.heap.size)) ∧ wx.heap[g5]? = some (.cells #[.slice sA0 d.sectors.length sc0, .slice pA0 d.pending.length pc0, .int .i64 d.left, .bool d.stopped] 25 (0, 0)) ∧ wx.heap[g6]? = some (.cells #[.slice sA0 d.sectors.length sc0, .slice pA0 d.pending.length pc0, .int .i64 d.left, .bool d.stopped] 25 (0, 0)) ∧ wx.heap.size = w3.heap.size + 2 ∧ Below w3.heap.size w3 wx))
    case first =>
      have hlw : w.heap.size < w3.heap.size := by omega
      go_region_held3 (fun w' => w'.cell? ⟨w.heap.size, 0, none⟩ = some (.slice sA0 d.sectors.length sc0) ∧ w'.cell? ⟨w.heap.size, 1, none⟩ = some (.slice pA0 d.pending.length pc0) ∧ w'.cell? ⟨w.heap.size, 2, none⟩ = some (.int .i64 d.left) ∧ w'.cell? ⟨w.heap.size, 3, none⟩ = some (.bool d.stopped)) (first | with_reducible exact ⟨c0, c1, c2, c3⟩ | go_keep) (fail)
      all_goals go_wp2_with fail
      all_goals go_meet
      all_goals have ta := two_alloc w3 (.cells #[.slice sA0 d.sectors.length sc0, .slice pA0 d.pending.length pc0, .int .i64 d.left, .bool d.stopped] 25 (0, 0))
      all_goals first
        | ((with_reducible refine ⟨w3.heap.size, w3.heap.size + 1, rfl, rfl, ?_⟩); exact Lib.hid ⟨.inl ⟨rfl, rfl⟩, ta.1, ta.2.1, ta.2.2.1, ta.2.2.2⟩)
        | ((with_reducible refine ⟨w3.heap.size + 1, w3.heap.size, rfl, rfl, ?_⟩); exact Lib.hid ⟨.inr ⟨rfl, rfl⟩, ta.2.1, ta.1, ta.2.2.1, ta.2.2.2⟩)
    case rest =>
      obtain ⟨g5, g6, rfl, rfl, HC⟩ := hcut
      obtain ⟨wd, rfl⟩ : ∃ x, x = wc := ⟨_, rfl⟩
      have hgs : w3.heap.size ≤ g5 ∧ w3.heap.size ≤ g6 ∧ g5 < wd.heap.size ∧ g6 < wd.heap.size ∧ g5 ≠ g6 := by have h1 := HC.out.1; have h2 := HC.out.2.2.2.1; omega
      obtain ⟨hg1, hg2, hg3, hg4, hg5⟩ := hgs
      have D0_w3 := Lib.hid ((D0_w3.out.box (n := g6) hg2).box (n := g5) hg1)
      have Q0_w3 := Lib.hid ((Q0_w3.out.box (n := g6) hg2).box (n := g5) hg1)
      have hbc := HC.out.2.2.2.2
      have bww3 := bww3.out
      have kpw3 : True := trivial
      have inw3 : True := trivial
      have Bx_wd := Lib.hid ((hbc.block (w.heap.size) (by omega)).trans Bx_w3.out)
      have ltx_wd : w.heap.size < wd.heap.size := lt_heap Bx_wd.out
      have D0_wd := Lib.hid (D0_w3.out.below hbc)
      have Q0_wd := Lib.hid (Q0_w3.out.below hbc)
      have bwwd := Lib.hid (bww3.trans (hbc.mono bww3.size))
      have szwd : w3.heap.size ≤ wd.heap.size := hbc.size
      clear Bx_w3 ltx_w3 D0_w3 Q0_w3 c0 c1 c2 c3 cf0 cf1 cf2 cf3
      clear kpw3 bww3 inw3 hbc
      go_wp2_with fail
      go_loopw [7, 8] (fun e i wr => ∃ (k sc5 pc5 : Nat) (sA5 pA5 : Option Addr), k ≤ ac.length ∧ i = .int .i64 k ∧ e = .int .i64 (XF d ac k).2 ∧ Hid (wr.heap[g5]? = some (.cells #[.slice sA5 (XF d ac k).1.sectors.length sc5, .slice pA5 (XF d ac k).1.pending.length pc5, .int .i64 (XF d ac k).1.left, .bool (XF d ac k).1.stopped] 25 (0, 0)) ∧ IsDisk wr (NB [g5, g6, w.heap.size]) (.agg #[.slice sA5 (XF d ac k).1.sectors.length sc5, .slice pA5 (XF d ac k).1.pending.length pc5, .int .i64 (XF d ac k).1.left, .bool (XF d ac k).1.stopped]) (XF d ac k).1 ∧ Kp [g5, g6, w.heap.size] wd wr ∧ wr.heap[g6]? = some (.cells #[.slice sA0 d.sectors.length sc0, .slice pA0 d.pending.length pc0, .int .i64 d.left, .bool d.stopped] 25 (0, 0)) ∧ wr.heap[w.heap.size]? = some (.cells #[.slice sA0 d.sectors.length sc0, .slice pA0 d.pending.length pc0, .int .i64 d.left, .bool d.stopped] 25 (0, 0)) ∧ Below w.heap.size w wr)) (fun _ i _ => ac.length - (intOf i).toNat)
      case atStart => exact ⟨0, sc0, pc0, sA0, pA0, Nat.zero_le _, rfl, rfl, Lib.hid ⟨HC.out.2.1, D0_wd.out, Kp.refl _ _, HC.out.2.2.1, Bx_wd.out, bwwd.out⟩⟩
      case round =>
        obtain ⟨k, sc5, pc5, sA5, pA5, hk, rfl, rfl, HL⟩ := hrel
        have D0_wr := Lib.hid (D0_wd.out.kp HL.out.2.2.1)
        have Q0_wr := Lib.hid (Q0_wd.out.kp HL.out.2.2.1)
        have szwr : wd.heap.size ≤ wr.heap.size := HL.out.2.2.1.size
        have Bx_wr := Lib.hid HL.out.2.2.2.2.1
        have By5_wr := Lib.hid HL.out.1
        have By6_wr := Lib.hid HL.out.2.2.2.1
        have D5_wr := Lib.hid HL.out.2.1
        have KP_wr := Lib.hid HL.out.2.2.1
        have bwwr := Lib.hid HL.out.2.2.2.2.2
        clear HL
        have inwr : InW [g5, g6, w.heap.size] wr := by intro b hb; simp at hb; omega
        obtain ⟨⟨c0, c1, c2, c3⟩, -⟩ := blk4 (Below.refl _ wr) Bx_wr.out (Nat.lt_succ_self _)
        obtain ⟨⟨d0, d1, d2, d3⟩, ⟨df0, df1, df2, df3⟩⟩ := blk4 (Below.refl _ wr) By5_wr.out (Nat.lt_succ_self _)
        by_cases hgo : k < ac.length ∧ (XF d ac k).2 = 0
        · obtain ⟨hlt, he0⟩ := hgo
          have hlt' : (k : Int) < (ac.length : Int) := by omega
          have he0' : ((XF d ac k).2 == 0) = true := by rw [he0]; rfl
          obtain ⟨xs1, xs2⟩ := xf_step HR.out HP.out hx0 hlt he0
          have XS1 := Lib.hid xs1
          have XS2 := Lib.hid xs2
          have HE0 := Lib.hid he0
          clear xs1 xs2 he0
          obtain ⟨ab, ao, rfl, ca0, ca1, ca2⟩ := Q0_wr.out.at3 hlt
          have hk0 : (0 : Int) ≤ (k : Int) := by omega
          obtain ⟨q, hq⟩ : ∃ q, (actW d.sectors.length ac[k]).1 = q := ⟨_, rfl⟩
          have hmod : Int.tmod (((ac[k]).pos.toNat : Nat) : Int) (d.sectors.length : Int) = q := by rw [← hq]; exact Int.tmod_eq_emod_of_nonneg (by omega)
          have hpos : ((ac[k]).pos.toNat : Int) < 256 := by have := (ac[k]).pos.toNat_lt; omega
          have hwr1 : IntKind.i64.wrap (((ac[k]).pos.toNat : Nat) : Int) = (((ac[k]).pos.toNat : Nat) : Int) := IntWalk.i64_in _ (by omega)
          have hnz : ((d.sectors.length : Int) == 0) = false := hy2
          rw [hq] at XS1 XS2
          have HQ := Lib.hid hq
          clear hq
          go_wp2_with fail
          go_quiet (fail)
          have hbq : Below wr.heap.size wr (wr.drewN nq) := below_drewN (Below.refl _ _) _
          generalize wr.drewN nq = wq at hbq ⊢
          have szwq : wr.heap.size ≤ wq.heap.size := hbq.size
          have D0_wq := Lib.hid (D0_wr.out.below hbq)
          have Q0_wq := Lib.hid (Q0_wr.out.below hbq)
          have D5_wq := Lib.hid (D5_wr.out.below hbq)
          have Bx_wq := Lib.hid ((hbq.block w.heap.size (by omega)).trans Bx_wr.out)
          have By5_wq := Lib.hid ((hbq.block g5 (by omega)).trans By5_wr.out)
          have By6_wq := Lib.hid ((hbq.block g6 (by omega)).trans By6_wr.out)
          have habl := lt_of_cell ca2
          dsimp only at habl
          replace ca2 := (hbq.cell (p := ⟨ab, ao + k * 3 + 2, none⟩) habl).trans ca2
          have inwq : InW [g5, g6, w.heap.size] wq := inwr.mono szwq
          have KP_wq := Lib.hid (KP_wr.out.below hbq)
          have bwwq := Lib.hid (bwwr.out.trans (hbq.mono bwwr.out.size))
          clear c0 c1 c2 c3 d0 d1 d2 d3 df0 df1 df2 df3 ca0 ca1 hmod hwr1 hnz hbq Bx_wr By5_wr By6_wr D0_wr Q0_wr D5_wr
          obtain ⟨⟨d0, d1, d2, d3⟩, -⟩ := blk4 (Below.refl _ wq) By5_wq.out (Nat.lt_succ_self _)
          obtain ⟨Z, hZ⟩ : ∃ Z, wrote (XF d ac k).1 q [(ac[k]).byte] = Z := ⟨_, rfl⟩
          rw [hZ] at XS1 XS2
          clear hZ
          go_upto_region 11 with fail
          go_cut [10, 11] (fun s10 s11 wx => ∃ (g10 sc6 pc6 : Nat) (sA6 pA6 : Option Addr), s10 = .pointer (some ⟨g10, 0, none⟩) ∧ s11 = .int .i64 0 ∧ Hid (wx.heap[g10]? = some (.cells #[.slice sA6 Z.sectors.length sc6, .slice pA6 Z.pending.length pc6, .int .i64 Z.left, .bool Z.stopped] 25 (0, 0)) ∧ IsDisk wx (NB [g5, g6, w.heap.size]) (.agg #[.slice sA6 Z.sectors.length sc6, .slice pA6 Z.pending.length pc6, .int .i64 Z.left, .bool Z.stopped]) Z ∧ Below wq.heap.size wq wx))
          case first =>
            go_region_held3 (fun w' => w'.cell? ⟨g5, 0, none⟩ = some (.slice sA5 (XF d ac k).1.sectors.length sc5) ∧ w'.cell? ⟨g5, 1, none⟩ = some (.slice pA5 (XF d ac k).1.pending.length pc5) ∧ w'.cell? ⟨g5, 2, none⟩ = some (.int .i64 (XF d ac k).1.left) ∧ w'.cell? ⟨g5, 3, none⟩ = some (.bool (XF d ac k).1.stopped) ∧ w'.cell? ⟨ab, ao + k * 3 + 2, none⟩ = some (.int .u8 ((ac[k]).byte.toNat : Int))) (first | with_reducible exact ⟨d0, d1, d2, d3, ca2⟩ | with_reducible exact ⟨e0, e1, e2, e3, ea⟩ | with_reducible exact keep5 (by omega) (by omega) e0 e1 e2 e3 ea | go_keep) (first | (go_at_call 19; (with_reducible refine (writeQ (l := [wq.heap.size, g5, g6, w.heap.size]) _ ?_ ?_ XS1.out (wq.heap.size + 1) ?_ ?_).mono ?_); (focus (exact IsDisk.below (D5_wq.out.box (n := wq.heap.size) (by omega)) (by repeat (first | exact Below.refl _ _ | refine Below.alloc ?_ (by (repeat (first | simp only [World.size_alloc] | simp only [size_set] | simp only [World.size_drew] | simp only [World.heap_drewN])); omega) _ | refine Below.drew ?_ | refine below_drewN ?_ _)))); (focus (refine InW.cons (inwq.mono ?_) ?_ <;> ((repeat (first | simp only [World.size_alloc] | simp only [size_set] | simp only [World.size_drew] | simp only [World.heap_drewN])); omega))); (focus ((repeat (first | simp only [heap_drew] | simp only [World.heap_drewN] | simp only [heap_alloc_if] | simp only [heap_set_if] | simp only [World.size_alloc] | simp only [size_set] | simp only [World.size_drew])); (repeat (first | rw [if_pos trivial] | rw [if_pos (by omega)] | rw [if_neg (by omega)])); done)); (focus (exact NB.ge2 (NB.ge inwq (by omega)) (by omega))); rintro e w6 ⟨sA6, sc6, pA6, pc6, rfl, hD6, hb6⟩; have hB6 : Below wq.heap.size wq w6 := Below.trans (by repeat (first | exact Below.refl _ _ | refine Below.alloc ?_ (by (repeat (first | simp only [World.size_alloc] | simp only [size_set] | simp only [World.size_drew] | simp only [World.heap_drewN])); omega) _ | refine Below.drew ?_ | refine below_drewN ?_ _)) (hb6.mono (by (repeat (first | simp only [World.size_alloc] | simp only [size_set] | simp only [World.size_drew] | simp only [World.heap_drewN])); omega)); obtain ⟨⟨e0, e1, e2, e3⟩, -⟩ := blk4 hB6 By5_wq.out (by omega); have ea := (hB6.cell (p := ⟨ab, ao + k * 3 + 2, none⟩) (by dsimp only; omega)).trans ca2; have HB6 := Lib.hid hB6; have hz6 := hB6.size; have HD6 := Lib.hid hD6; clear hD6; (refine have_hid (p := w6.heap[wq.heap.size]? = some (.cells #[.slice none 0 0, .slice none 0 0, .int .i64 0, .bool false] 25 (0, 0))) ?_ (fun K6 => ?_); (focus (refine Eq.trans (hb6.block _ ?_) ?_; (focus ((repeat (first | simp only [World.size_alloc] | simp only [size_set] | simp only [World.size_drew] | simp only [World.heap_drewN])); omega)); (focus ((repeat (first | simp only [heap_drew] | simp only [World.heap_drewN] | simp only [heap_alloc_if] | simp only [heap_set_if] | simp only [World.size_alloc] | simp only [size_set] | simp only [World.size_drew])); (repeat (first | rw [if_pos trivial] | rw [if_pos (by omega)] | rw [if_neg (by omega)])); done)))); obtain ⟨⟨s0, s1, s2, s3⟩, ⟨t0, t1, t2, t3⟩⟩ := blk4 (Below.refl _ w6) K6.out (Nat.lt_succ_self _))) | (go_at_call 19; (with_reducible refine (writeQ (l := [wq.heap.size + 1, g5, g6, w.heap.size]) _ ?_ ?_ XS1.out (wq.heap.size) ?_ ?_).mono ?_); (focus (exact IsDisk.below (D5_wq.out.box (n := wq.heap.size + 1) (by omega)) (by repeat (first | exact Below.refl _ _ | refine Below.alloc ?_ (by (repeat (first | simp only [World.size_alloc] | simp only [size_set] | simp only [World.size_drew] | simp only [World.heap_drewN])); omega) _ | refine Below.drew ?_ | refine below_drewN ?_ _)))); (focus (refine InW.cons (inwq.mono ?_) ?_ <;> ((repeat (first | simp only [World.size_alloc] | simp only [size_set] | simp only [World.size_drew] | simp only [World.heap_drewN])); omega))); (focus ((repeat (first | simp only [heap_drew] | simp only [World.heap_drewN] | simp only [heap_alloc_if] | simp only [heap_set_if] | simp only [World.size_alloc] | simp only [size_set] | simp only [World.size_drew])); (repeat (first | rw [if_pos trivial] | rw [if_pos (by omega)] | rw [if_neg (by omega)])); done)); (focus (exact NB.ge2 (NB.ge inwq (by omega)) (by omega))); rintro e w6 ⟨sA6, sc6, pA6, pc6, rfl, hD6, hb6⟩; have hB6 : Below wq.heap.size wq w6 := Below.trans (by repeat (first | exact Below.refl _ _ | refine Below.alloc ?_ (by (repeat (first | simp only [World.size_alloc] | simp only [size_set] | simp only [World.size_drew] | simp only [World.heap_drewN])); omega) _ | refine Below.drew ?_ | refine below_drewN ?_ _)) (hb6.mono (by (repeat (first | simp only [World.size_alloc] | simp only [size_set] | simp only [World.size_drew] | simp only [World.heap_drewN])); omega)); obtain ⟨⟨e0, e1, e2, e3⟩, -⟩ := blk4 hB6 By5_wq.out (by omega); have ea := (hB6.cell (p := ⟨ab, ao + k * 3 + 2, none⟩) (by dsimp only; omega)).trans ca2; have HB6 := Lib.hid hB6; have hz6 := hB6.size; have HD6 := Lib.hid hD6; clear hD6; (refine have_hid (p := w6.heap[wq.heap.size + 1]? = some (.cells #[.slice none 0 0, .slice none 0 0, .int .i64 0, .bool false] 25 (0, 0))) ?_ (fun K6 => ?_); (focus (refine Eq.trans (hb6.block _ ?_) ?_; (focus ((repeat (first | simp only [World.size_alloc] | simp only [size_set] | simp only [World.size_drew] | simp only [World.heap_drewN])); omega)); (focus ((repeat (first | simp only [heap_drew] | simp only [World.heap_drewN] | simp only [heap_alloc_if] | simp only [heap_set_if] | simp only [World.size_alloc] | simp only [size_set] | simp only [World.size_drew])); (repeat (first | rw [if_pos trivial] | rw [if_pos (by omega)] | rw [if_neg (by omega)])); done)))); obtain ⟨⟨s0, s1, s2, s3⟩, ⟨t0, t1, t2, t3⟩⟩ := blk4 (Below.refl _ w6) K6.out (Nat.lt_succ_self _))) | (go_at_call 19; (with_reducible refine (writeQ (l := [g5, g6, w.heap.size]) _ ?_ ?_ XS1.out (wq.heap.size) ?_ ?_).mono ?_); (focus (exact IsDisk.below D5_wq.out (by repeat (first | exact Below.refl _ _ | refine Below.alloc ?_ (by (repeat (first | simp only [World.size_alloc] | simp only [size_set] | simp only [World.size_drew] | simp only [World.heap_drewN])); omega) _ | refine Below.drew ?_ | refine below_drewN ?_ _)))); (focus (refine inwq.mono ?_; (repeat (first | simp only [World.size_alloc] | simp only [size_set] | simp only [World.size_drew] | simp only [World.heap_drewN])); omega)); (focus ((repeat (first | simp only [heap_drew] | simp only [World.heap_drewN] | simp only [heap_alloc_if] | simp only [heap_set_if] | simp only [World.size_alloc] | simp only [size_set] | simp only [World.size_drew])); (repeat (first | rw [if_pos trivial] | rw [if_pos (by omega)] | rw [if_neg (by omega)])); done)); (focus (exact NB.ge inwq (by omega))); rintro e w6 ⟨sA6, sc6, pA6, pc6, rfl, hD6, hb6⟩; have hB6 : Below wq.heap.size wq w6 := Below.trans (by repeat (first | exact Below.refl _ _ | refine Below.alloc ?_ (by (repeat (first | simp only [World.size_alloc] | simp only [size_set] | simp only [World.size_drew] | simp only [World.heap_drewN])); omega) _ | refine Below.drew ?_ | refine below_drewN ?_ _)) (hb6.mono (by (repeat (first | simp only [World.size_alloc] | simp only [size_set] | simp only [World.size_drew] | simp only [World.heap_drewN])); omega)); obtain ⟨⟨e0, e1, e2, e3⟩, -⟩ := blk4 hB6 By5_wq.out (by omega); have ea := (hB6.cell (p := ⟨ab, ao + k * 3 + 2, none⟩) (by dsimp only; omega)).trans ca2; have HB6 := Lib.hid hB6; have hz6 := hB6.size; have HD6 := Lib.hid hD6; clear hD6; have K6 : Hid True := trivial))
            all_goals go_wp2_with fail
            all_goals go_meet
            all_goals first
              | ((with_reducible refine ⟨w6.heap.size, sc6, pc6, sA6, pA6, rfl, rfl, ?_⟩); exact Lib.hid ⟨heap_alloc_new _ _, HD6.out.below ((Below.refl _ _).alloc (Nat.le_refl _) _), HB6.out.alloc hz6 _⟩)
              | ((with_reducible refine ⟨wq.heap.size, sc6, pc6, sA6, pA6, rfl, rfl, ?_⟩); exact Lib.hid (cutQ (Nat.le_refl _) K6.out HD6.out HB6.out))
              | ((with_reducible refine ⟨wq.heap.size + 1, sc6, pc6, sA6, pA6, rfl, rfl, ?_⟩); exact Lib.hid (cutQ (Nat.le_succ _) K6.out HD6.out HB6.out))
          case rest =>
            obtain ⟨g10, sc6, pc6, sA6, pA6, rfl, rfl, HC6⟩ := hcut
            have hb6 := HC6.out.2.2
            have szwc : wq.heap.size ≤ wc.heap.size := hb6.size
            have inwc : InW [g5, g6, w.heap.size] wc := inwq.mono szwc
            have D6_wc := Lib.hid HC6.out.2.1
            obtain ⟨⟨c0, c1, c2, c3⟩, -⟩ := blk4 (Below.refl _ wc) HC6.out.1 (Nat.lt_succ_self _)
            have C7 := Lib.hid (sync_l [g5, g6, w.heap.size] wc inwc Z _ D6_wc.out)
            rw [XS2.out] at C7
            go_wp2_with fail
            refine C7.out.mono ?_
            rintro e w7 ⟨v7, rfl, hD7, hb7⟩
            obtain ⟨sA7, sc7, pA7, pc7, rfl, -⟩ := hD7.parts
            have hb67 := hb6.trans (hb7.mono szwc)
            have By5_w7 := Lib.hid ((hb67.block g5 (by omega)).trans By5_wq.out)
            have By6_w7 := Lib.hid ((hb67.block g6 (by omega)).trans By6_wq.out)
            have Bx_w7 := Lib.hid ((hb67.block w.heap.size (by omega)).trans Bx_wq.out)
            have KP_w7 := Lib.hid (KP_wq.out.below hb67)
            have bww7 := Lib.hid (bwwq.out.trans (hb67.mono bwwq.out.size))
            have D7 := Lib.hid hD7
            clear hD7 hb6 hb7 hb67 C7 c0 c1 c2 c3 d0 d1 d2 d3
            obtain ⟨⟨d0, d1, d2, d3⟩, ⟨df0, df1, df2, df3⟩⟩ := blk4 (Below.refl _ w7) By5_w7.out (Nat.lt_succ_self _)
            go_wp2_with fail
            go_roundw
            case rel =>
              have hkp : Kp [g5, g6, w.heap.size] w7 ((((w7.setCell ⟨g5, 0, none⟩ (.slice sA7 (XF d ac (k + 1)).1.sectors.length sc7)).setCell ⟨g5, 1, none⟩ (.slice pA7 (XF d ac (k + 1)).1.pending.length pc7)).setCell ⟨g5, 2, none⟩ (.int .i64 (XF d ac (k + 1)).1.left)).setCell ⟨g5, 3, none⟩ (.bool (XF d ac (k + 1)).1.stopped)) := (((((Kp.refl _ _).setCell (by simp) _ _).setCell (by simp) _ _).setCell (by simp) _ _).setCell (by simp) _ _)
              refine ⟨k + 1, sc7, pc7, sA7, pA7, by omega, by go_num, rfl, Lib.hid ⟨set4 By5_w7.out _ _ _ _, D7.out.kp hkp, KP_w7.out.trans hkp, ?_, ?_, ?_⟩⟩
              · exact (blk_off4 (by omega)).trans By6_w7.out
              · exact (blk_off4 (by omega)).trans Bx_w7.out
              · exact (((bww7.out.setCell (by dsimp only; omega) _).setCell (by dsimp only; omega) _).setCell (by dsimp only; omega) _).setCell (by dsimp only; omega) _
            case measure => simp [intOf]; omega
        · have hcase : (k < ac.length ∧ (XF d ac k).2 ≠ 0) ∨ ¬ k < ac.length := by
            by_cases h1 : k < ac.length
            · exact .inl ⟨h1, fun h2 => hgo ⟨h1, h2⟩⟩
            · exact .inr h1
          have HX : Hid (XF d ac ac.length = XF d ac k) := by
            show _ = _
            rcases hcase with h1 | h1
            · exact xf_end h1.2
            · have : k = ac.length := by omega
              rw [this]
          clear hgo
          have hcase' : ((k : Int) < (ac.length : Int) ∧ ((XF d ac k).2 == 0) = false) ∨ ¬ (k : Int) < (ac.length : Int) := by
            rcases hcase with h1 | h1
            · exact .inl ⟨by omega, by simp [h1.2]⟩
            · exact .inr (by omega)
          clear hcase
          rcases hcase' with ⟨hl1, hl2⟩ | hl1
          all_goals
            go_wp2_with fail
            clear c0 c1 c2 c3 d0 d1 d2 d3 df0 df1 df2 df3
            obtain ⟨we, rfl⟩ : ∃ x, x = wr := ⟨_, rfl⟩
            generalize XF d ac k = XL at *
            go_loopw [12] (fun i wr => ∃ (k sc6 pc6 : Nat) (sA6 pA6 : Option Addr), k ≤ ac.length ∧ i = .int .i64 k ∧ Hid (wr.heap[g6]? = some (.cells #[.slice sA6 (YF d ac k).sectors.length sc6, .slice pA6 (YF d ac k).pending.length pc6, .int .i64 (YF d ac k).left, .bool (YF d ac k).stopped] 25 (0, 0)) ∧ IsDisk wr (NB [g5, g6, w.heap.size]) (.agg #[.slice sA6 (YF d ac k).sectors.length sc6, .slice pA6 (YF d ac k).pending.length pc6, .int .i64 (YF d ac k).left, .bool (YF d ac k).stopped]) (YF d ac k) ∧ Kp [g5, g6, w.heap.size] we wr ∧ wr.heap[g5]? = some (.cells #[.slice sA5 XL.1.sectors.length sc5, .slice pA5 XL.1.pending.length pc5, .int .i64 XL.1.left, .bool XL.1.stopped] 25 (0, 0)) ∧ wr.heap[w.heap.size]? = some (.cells #[.slice sA0 d.sectors.length sc0, .slice pA0 d.pending.length pc0, .int .i64 d.left, .bool d.stopped] 25 (0, 0)) ∧ Below w.heap.size w wr)) (fun i _ => ac.length - (intOf i).toNat)
            case atStart => exact ⟨0, sc0, pc0, sA0, pA0, Nat.zero_le _, rfl, Lib.hid ⟨By6_wr.out, D0_wr.out, Kp.refl _ _, By5_wr.out, Bx_wr.out, bwwr.out⟩⟩
            case round =>
              obtain ⟨k, sc6, pc6, sA6, pA6, hk, rfl, HL⟩ := hrel
              have D0_wq := Lib.hid (D0_wr.out.kp HL.out.2.2.1)
              have Q0_wq := Lib.hid (Q0_wr.out.kp HL.out.2.2.1)
              have D5_wq := Lib.hid (D5_wr.out.kp HL.out.2.2.1)
              have szwq : we.heap.size ≤ wr.heap.size := HL.out.2.2.1.size
              have Bx_wq := Lib.hid HL.out.2.2.2.2.1
              have By6_wq := Lib.hid HL.out.1
              have By5_wq := Lib.hid HL.out.2.2.2.1
              have D6_wq := Lib.hid HL.out.2.1
              have KP_wq := Lib.hid HL.out.2.2.1
              have bwwq := Lib.hid HL.out.2.2.2.2.2
              clear HL
              have inwq : InW [g5, g6, w.heap.size] wr := inwr.mono szwq
              obtain ⟨⟨c0, c1, c2, c3⟩, -⟩ := blk4 (Below.refl _ wr) Bx_wq.out (Nat.lt_succ_self _)
              obtain ⟨⟨d0, d1, d2, d3⟩, ⟨df0, df1, df2, df3⟩⟩ := blk4 (Below.refl _ wr) By6_wq.out (Nat.lt_succ_self _)
              by_cases hlt : k < ac.length
              · have hlt' : (k : Int) < (ac.length : Int) := by omega
                have xs1 := yf_step HR.out HP.out hx0 hlt
                obtain ⟨ab, ao, rfl, ca0, ca1, ca2⟩ := Q0_wq.out.at3 hlt
                have habl := lt_of_cell ca2
                dsimp only at habl
                have hk0 : (0 : Int) ≤ (k : Int) := by omega
                obtain ⟨q, hq⟩ : ∃ q, (actW d.sectors.length ac[k]).1 = q := ⟨_, rfl⟩
                have hmod : Int.tmod (((ac[k]).pos.toNat : Nat) : Int) (d.sectors.length : Int) = q := by rw [← hq]; exact Int.tmod_eq_emod_of_nonneg (by omega)
                have hpos : ((ac[k]).pos.toNat : Int) < 256 := by have := (ac[k]).pos.toNat_lt; omega
                have hwr1 : IntKind.i64.wrap (((ac[k]).pos.toNat : Nat) : Int) = (((ac[k]).pos.toNat : Nat) : Int) := IntWalk.i64_in _ (by omega)
                have hnz : ((d.sectors.length : Int) == 0) = false := hy2
                have hnz2 : ¬ ((d.sectors.length : Int) = 0) := by omega
                have hnz3 : ¬ d.sectors = [] := by intro e; rw [e] at hse; simp at hse
                rw [hq] at xs1
                have XS1 := Lib.hid xs1
                clear hq xs1 ca0
                obtain ⟨Z, hZ⟩ : ∃ Z, YF d ac (k + 1) = Z := ⟨_, rfl⟩
                rw [hZ] at XS1
                have HZ := Lib.hid hZ
                clear hZ
                go_upto_region 18 with fail
                go_cut [13, 14] (fun s13 s14 wx => ∃ (g13 sc7 pc7 : Nat) (sA7 pA7 : Option Addr), s13 = .pointer (some ⟨g13, 0, none⟩) ∧ s14 = .int .i64 0 ∧ Hid (wx.heap[g13]? = some (.cells #[.slice sA7 Z.sectors.length sc7, .slice pA7 Z.pending.length pc7, .int .i64 Z.left, .bool Z.stopped] 25 (0, 0)) ∧ IsDisk wx (NB [g5, g6, w.heap.size]) (.agg #[.slice sA7 Z.sectors.length sc7, .slice pA7 Z.pending.length pc7, .int .i64 Z.left, .bool Z.stopped]) Z ∧ Below wr.heap.size wr wx))
                case first =>
                  go_region_held3 (fun w' => w'.cell? ⟨g6, 0, none⟩ = some (.slice sA6 (YF d ac k).sectors.length sc6) ∧ w'.cell? ⟨g6, 1, none⟩ = some (.slice pA6 (YF d ac k).pending.length pc6) ∧ w'.cell? ⟨g6, 2, none⟩ = some (.int .i64 (YF d ac k).left) ∧ w'.cell? ⟨g6, 3, none⟩ = some (.bool (YF d ac k).stopped) ∧ w'.cell? ⟨w.heap.size, 0, none⟩ = some (.slice sA0 d.sectors.length sc0) ∧ w'.cell? ⟨ab, ao + k * 3 + 1, none⟩ = some (.int .u8 ((ac[k]).pos.toNat : Int)) ∧ w'.cell? ⟨ab, ao + k * 3 + 2, none⟩ = some (.int .u8 ((ac[k]).byte.toNat : Int))) (first | with_reducible exact ⟨d0, d1, d2, d3, c0, ca1, ca2⟩ | with_reducible exact ⟨e0, e1, e2, e3, ec, eb, ea⟩ | with_reducible exact ⟨(off4 (by omega)).trans e0, (off4 (by omega)).trans e1, (off4 (by omega)).trans e2, (off4 (by omega)).trans e3, (off4 (by omega)).trans ec, (off4 (by omega)).trans eb, (off4 (by omega)).trans ea⟩ | go_keep) (first | (go_at_call 19; (with_reducible refine (writeQ (l := [wr.heap.size, g5, g6, w.heap.size]) _ ?_ ?_ XS1.out (wr.heap.size + 1) ?_ ?_).mono ?_); (focus (exact IsDisk.below (D6_wq.out.box (n := wr.heap.size) (by omega)) (by repeat (first | exact Below.refl _ _ | refine Below.alloc ?_ (by (repeat (first | simp only [World.size_alloc] | simp only [size_set] | simp only [World.size_drew] | simp only [World.heap_drewN])); omega) _ | refine Below.drew ?_ | refine below_drewN ?_ _)))); (focus (refine InW.cons (inwq.mono ?_) ?_ <;> ((repeat (first | simp only [World.size_alloc] | simp only [size_set] | simp only [World.size_drew] | simp only [World.heap_drewN])); omega))); (focus ((repeat (first | simp only [heap_drew] | simp only [World.heap_drewN] | simp only [heap_alloc_if] | simp only [heap_set_if] | simp only [World.size_alloc] | simp only [size_set] | simp only [World.size_drew])); (repeat (first | rw [if_pos trivial] | rw [if_pos (by omega)] | rw [if_neg (by omega)])); done)); (focus (exact NB.ge2 (NB.ge inwq (by omega)) (by omega))); rintro e w6 ⟨sA7, sc7, pA7, pc7, rfl, hD6, hb6⟩; have hB6 : Below wr.heap.size wr w6 := Below.trans (by repeat (first | exact Below.refl _ _ | refine Below.alloc ?_ (by (repeat (first | simp only [World.size_alloc] | simp only [size_set] | simp only [World.size_drew] | simp only [World.heap_drewN])); omega) _ | refine Below.drew ?_ | refine below_drewN ?_ _)) (hb6.mono (by (repeat (first | simp only [World.size_alloc] | simp only [size_set] | simp only [World.size_drew] | simp only [World.heap_drewN])); omega)); obtain ⟨⟨e0, e1, e2, e3⟩, -⟩ := blk4 hB6 By6_wq.out (by omega); have ec := (hB6.cell (p := ⟨w.heap.size, 0, none⟩) (by dsimp only; omega)).trans c0; have eb := (hB6.cell (p := ⟨ab, ao + k * 3 + 1, none⟩) (by dsimp only; omega)).trans ca1; have ea := (hB6.cell (p := ⟨ab, ao + k * 3 + 2, none⟩) (by dsimp only; omega)).trans ca2; have HB6 := Lib.hid hB6; have hz6 := hB6.size; have HD6 := Lib.hid hD6; clear hD6; (refine have_hid (p := w6.heap[wr.heap.size]? = some (.cells #[.slice none 0 0, .slice none 0 0, .int .i64 0, .bool false] 25 (0, 0))) ?_ (fun K6 => ?_); (focus (refine Eq.trans (hb6.block _ ?_) ?_; (focus ((repeat (first | simp only [World.size_alloc] | simp only [size_set] | simp only [World.size_drew] | simp only [World.heap_drewN])); omega)); (focus ((repeat (first | simp only [heap_drew] | simp only [World.heap_drewN] | simp only [heap_alloc_if] | simp only [heap_set_if] | simp only [World.size_alloc] | simp only [size_set] | simp only [World.size_drew])); (repeat (first | rw [if_pos trivial] | rw [if_pos (by omega)] | rw [if_neg (by omega)])); done)))); obtain ⟨⟨s0, s1, s2, s3⟩, ⟨t0, t1, t2, t3⟩⟩ := blk4 (Below.refl _ w6) K6.out (Nat.lt_succ_self _))) | (go_at_call 19; (with_reducible refine (writeQ (l := [wr.heap.size + 1, g5, g6, w.heap.size]) _ ?_ ?_ XS1.out (wr.heap.size) ?_ ?_).mono ?_); (focus (exact IsDisk.below (D6_wq.out.box (n := wr.heap.size + 1) (by omega)) (by repeat (first | exact Below.refl _ _ | refine Below.alloc ?_ (by (repeat (first | simp only [World.size_alloc] | simp only [size_set] | simp only [World.size_drew] | simp only [World.heap_drewN])); omega) _ | refine Below.drew ?_ | refine below_drewN ?_ _)))); (focus (refine InW.cons (inwq.mono ?_) ?_ <;> ((repeat (first | simp only [World.size_alloc] | simp only [size_set] | simp only [World.size_drew] | simp only [World.heap_drewN])); omega))); (focus ((repeat (first | simp only [heap_drew] | simp only [World.heap_drewN] | simp only [heap_alloc_if] | simp only [heap_set_if] | simp only [World.size_alloc] | simp only [size_set] | simp only [World.size_drew])); (repeat (first | rw [if_pos trivial] | rw [if_pos (by omega)] | rw [if_neg (by omega)])); done)); (focus (exact NB.ge2 (NB.ge inwq (by omega)) (by omega))); rintro e w6 ⟨sA7, sc7, pA7, pc7, rfl, hD6, hb6⟩; have hB6 : Below wr.heap.size wr w6 := Below.trans (by repeat (first | exact Below.refl _ _ | refine Below.alloc ?_ (by (repeat (first | simp only [World.size_alloc] | simp only [size_set] | simp only [World.size_drew] | simp only [World.heap_drewN])); omega) _ | refine Below.drew ?_ | refine below_drewN ?_ _)) (hb6.mono (by (repeat (first | simp only [World.size_alloc] | simp only [size_set] | simp only [World.size_drew] | simp only [World.heap_drewN])); omega)); obtain ⟨⟨e0, e1, e2, e3⟩, -⟩ := blk4 hB6 By6_wq.out (by omega); have ec := (hB6.cell (p := ⟨w.heap.size, 0, none⟩) (by dsimp only; omega)).trans c0; have eb := (hB6.cell (p := ⟨ab, ao + k * 3 + 1, none⟩) (by dsimp only; omega)).trans ca1; have ea := (hB6.cell (p := ⟨ab, ao + k * 3 + 2, none⟩) (by dsimp only; omega)).trans ca2; have HB6 := Lib.hid hB6; have hz6 := hB6.size; have HD6 := Lib.hid hD6; clear hD6; (refine have_hid (p := w6.heap[wr.heap.size + 1]? = some (.cells #[.slice none 0 0, .slice none 0 0, .int .i64 0, .bool false] 25 (0, 0))) ?_ (fun K6 => ?_); (focus (refine Eq.trans (hb6.block _ ?_) ?_; (focus ((repeat (first | simp only [World.size_alloc] | simp only [size_set] | simp only [World.size_drew] | simp only [World.heap_drewN])); omega)); (focus ((repeat (first | simp only [heap_drew] | simp only [World.heap_drewN] | simp only [heap_alloc_if] | simp only [heap_set_if] | simp only [World.size_alloc] | simp only [size_set] | simp only [World.size_drew])); (repeat (first | rw [if_pos trivial] | rw [if_pos (by omega)] | rw [if_neg (by omega)])); done)))); obtain ⟨⟨s0, s1, s2, s3⟩, ⟨t0, t1, t2, t3⟩⟩ := blk4 (Below.refl _ w6) K6.out (Nat.lt_succ_self _))) | (go_at_call 19; (with_reducible refine (writeQ (l := [g5, g6, w.heap.size]) _ ?_ ?_ XS1.out (wr.heap.size) ?_ ?_).mono ?_); (focus (exact IsDisk.below D6_wq.out (by repeat (first | exact Below.refl _ _ | refine Below.alloc ?_ (by (repeat (first | simp only [World.size_alloc] | simp only [size_set] | simp only [World.size_drew] | simp only [World.heap_drewN])); omega) _ | refine Below.drew ?_ | refine below_drewN ?_ _)))); (focus (refine inwq.mono ?_; (repeat (first | simp only [World.size_alloc] | simp only [size_set] | simp only [World.size_drew] | simp only [World.heap_drewN])); omega)); (focus ((repeat (first | simp only [heap_drew] | simp only [World.heap_drewN] | simp only [heap_alloc_if] | simp only [heap_set_if] | simp only [World.size_alloc] | simp only [size_set] | simp only [World.size_drew])); (repeat (first | rw [if_pos trivial] | rw [if_pos (by omega)] | rw [if_neg (by omega)])); done)); (focus (exact NB.ge inwq (by omega))); rintro e w6 ⟨sA7, sc7, pA7, pc7, rfl, hD6, hb6⟩; have hB6 : Below wr.heap.size wr w6 := Below.trans (by repeat (first | exact Below.refl _ _ | refine Below.alloc ?_ (by (repeat (first | simp only [World.size_alloc] | simp only [size_set] | simp only [World.size_drew] | simp only [World.heap_drewN])); omega) _ | refine Below.drew ?_ | refine below_drewN ?_ _)) (hb6.mono (by (repeat (first | simp only [World.size_alloc] | simp only [size_set] | simp only [World.size_drew] | simp only [World.heap_drewN])); omega)); obtain ⟨⟨e0, e1, e2, e3⟩, -⟩ := blk4 hB6 By6_wq.out (by omega); have ec := (hB6.cell (p := ⟨w.heap.size, 0, none⟩) (by dsimp only; omega)).trans c0; have eb := (hB6.cell (p := ⟨ab, ao + k * 3 + 1, none⟩) (by dsimp only; omega)).trans ca1; have ea := (hB6.cell (p := ⟨ab, ao + k * 3 + 2, none⟩) (by dsimp only; omega)).trans ca2; have HB6 := Lib.hid hB6; have hz6 := hB6.size; have HD6 := Lib.hid hD6; clear hD6; have K6 : Hid True := trivial))
                  all_goals go_wp2_with fail
                  all_goals go_meet
                  all_goals first
                    | ((with_reducible refine ⟨w6.heap.size, sc7, pc7, sA7, pA7, rfl, rfl, ?_⟩); exact Lib.hid ⟨heap_alloc_new _ _, HD6.out.below ((Below.refl _ _).alloc (Nat.le_refl _) _), HB6.out.alloc hz6 _⟩)
                    | ((with_reducible refine ⟨wr.heap.size, sc7, pc7, sA7, pA7, rfl, rfl, ?_⟩); exact Lib.hid (cutQ (Nat.le_refl _) K6.out HD6.out HB6.out))
                    | ((with_reducible refine ⟨wr.heap.size + 1, sc7, pc7, sA7, pA7, rfl, rfl, ?_⟩); exact Lib.hid (cutQ (Nat.le_succ _) K6.out HD6.out HB6.out))
                case rest =>
                  obtain ⟨g13, sc7, pc7, sA7, pA7, rfl, rfl, HC7⟩ := hcut
                  have hb7 := HC7.out.2.2
                  have szwc : wr.heap.size ≤ wc.heap.size := hb7.size
                  have By5_w7 := Lib.hid ((hb7.block g5 (by omega)).trans By5_wq.out)
                  have By6_w7 := Lib.hid ((hb7.block g6 (by omega)).trans By6_wq.out)
                  have Bx_w7 := Lib.hid ((hb7.block w.heap.size (by omega)).trans Bx_wq.out)
                  have KP_w7 := Lib.hid (KP_wq.out.below hb7)
                  have bww7 := Lib.hid (bwwq.out.trans (hb7.mono bwwq.out.size))
                  have D7 := Lib.hid HC7.out.2.1
                  clear hb7 c0 c1 c2 c3 d0 d1 d2 d3 df0 df1 df2 df3 hmod hwr1
                  obtain ⟨⟨c0, c1, c2, c3⟩, -⟩ := blk4 (Below.refl _ wc) HC7.out.1 (Nat.lt_succ_self _)
                  obtain ⟨⟨d0, d1, d2, d3⟩, ⟨df0, df1, df2, df3⟩⟩ := blk4 (Below.refl _ wc) By6_w7.out (Nat.lt_succ_self _)
                  go_wp2_with fail
                  go_roundw
                  case rel =>
                    rw [← HZ.out] at D7 ⊢
                    have hkp : Kp [g5, g6, w.heap.size] wc ((((wc.setCell ⟨g6, 0, none⟩ (.slice sA7 (YF d ac (k + 1)).sectors.length sc7)).setCell ⟨g6, 1, none⟩ (.slice pA7 (YF d ac (k + 1)).pending.length pc7)).setCell ⟨g6, 2, none⟩ (.int .i64 (YF d ac (k + 1)).left)).setCell ⟨g6, 3, none⟩ (.bool (YF d ac (k + 1)).stopped)) := (((((Kp.refl _ _).setCell (by simp) _ _).setCell (by simp) _ _).setCell (by simp) _ _).setCell (by simp) _ _)
                    refine ⟨k + 1, sc7, pc7, sA7, pA7, by omega, by go_num, Lib.hid ⟨set4 By6_w7.out _ _ _ _, D7.out.kp hkp, KP_w7.out.trans hkp, ?_, ?_, ?_⟩⟩
                    · exact (blk_off4 (by omega)).trans By5_w7.out
                    · exact (blk_off4 (by omega)).trans Bx_w7.out
                    · exact (((bww7.out.setCell (by dsimp only; omega) _).setCell (by dsimp only; omega) _).setCell (by dsimp only; omega) _).setCell (by dsimp only; omega) _
                  case measure => simp [intOf]; omega
              · obtain rfl : k = ac.length := by omega
                have hnl : ¬ (ac.length : Int) < (ac.length : Int) := by omega
                have C8 := Lib.hid (sync_l [g5, g6, w.heap.size] wr inwq (YF d ac ac.length) _ D6_wq.out)
                rw [xy_end HR.out HP.out hx0, HX.out] at C8
                go_wp2_with fail
                refine C8.out.mono ?_
                rintro e w8 ⟨v8, rfl, hD8, hb8⟩
                obtain ⟨sA8, sc8, pA8, pc8, rfl, -⟩ := hD8.parts
                have By5_w8 := Lib.hid ((hb8.block g5 (by omega)).trans By5_wq.out)
                have By6_w8 := Lib.hid ((hb8.block g6 (by omega)).trans By6_wq.out)
                have D5_w8 := Lib.hid (D5_wq.out.below hb8)
                have bww8 := Lib.hid (bwwq.out.trans (hb8.mono bwwq.out.size))
                have szw8 := hb8.size
                have D8 := Lib.hid hD8
                clear hD8 hb8 C8 c0 c1 c2 c3 d0 d1 d2 d3 df0 df1 df2 df3
                obtain ⟨⟨c0, c1, c2, c3⟩, -⟩ := blk4 (Below.refl _ w8) By5_w8.out (Nat.lt_succ_self _)
                obtain ⟨⟨d0, d1, d2, d3⟩, ⟨df0, df1, df2, df3⟩⟩ := blk4 (Below.refl _ w8) By6_w8.out (Nat.lt_succ_self _)
                have hee : (XL.2 == XL.2) = true := by simp
                have hg56 : ¬ g5 = g6 := hg5
                go_wp2_with fail
                refine nameW fun W9 hW9 => ?_
                have hkp9 : Kp [g5, g6, w.heap.size] w8 W9 := by rw [hW9.out]; repeat (first | exact Kp.refl _ _ | refine Kp.setCell ?_ (by simp) _ _)
                have bwW9 : Below w.heap.size w W9 := by rw [hW9.out]; repeat (first | exact bww8.out | refine Below.setCell ?_ (by dsimp only; omega) _)
                refine (same_any W9 _ _ XL.1 _ _ (D5_w8.out.kp hkp9) (D8.out.kp hkp9)).mono ?_
                rintro e w10 ⟨rfl, hb10⟩
                have bww10 := Lib.hid (bwW9.trans (hb10.mono bwW9.size))
                clear hb10 bwW9 hkp9 hW9
                go_wp2_with fail
                go_ret
                exact ⟨rfl, bww10.out⟩
end Go.Proofs.Ytjmafnkknohinaa
