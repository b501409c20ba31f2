import Derived.Test.YtjmafnkknohinaaL4
import Derived.Deep.CutBlock
import Derived.Deep.DeepCutAuto
namespace Go.Proofs.Ytjmafnkknohinaa
open Go.RowKit Go.Shelf Go.Deep

theorem cell_three_new (w : World) (a b c : Value) (t : TypeId) : ∀ j u, [a, b, c][j]? = some u → (w.alloc (.cells #[a, b, c] t)).cell? ((⟨w.heap.size, 0, none⟩ : Addr).add j) = some u := by
  intro j u hj
  have hl : (w.alloc (.cells #[a, b, c] t)).heap[w.heap.size]? = some (.cells #[a, b, c] t (0, 0)) := by rw [heap_alloc_if, if_pos rfl]
  refine (congrArg _ (show (⟨w.heap.size, 0, none⟩ : Addr).add j = ⟨w.heap.size, j, none⟩ from by unfold Addr.add; split <;> simp_all)).trans (cell_of hl ?_)
  have : j = 0 ∨ j = 1 ∨ j = 2 := by have := (List.getElem?_eq_some_iff.1 hj).1; simp at this; omega
  rcases this with rfl | rfl | rfl
  · simpa using hj
  · simpa using hj
  · simpa using hj
def hd0 : DiskD := ⟨List.replicate 4 zs128, [], -1, false⟩
def hd1 (r : Nat) : DiskD := ⟨List.replicate 4 zs128, [], (r : Int), false⟩
theorem own_lt {w : World} {base e sz n : Nat} {xs : List Value} {gr cap : Nat} (h : w.ownsRow base e sz (.slice (some ⟨gr, 0, none⟩) n cap) n xs) : ∃ g cp, Value.slice (some ⟨gr, 0, none⟩) n cap = .slice (some ⟨g, 0, none⟩) n cp ∧ base ≤ g ∧ g < w.heap.size := by
  rcases h.2 with ⟨h0, _⟩ | ⟨g, cp, cur, hv, hb, hg, _⟩
  · cases h0
  · exact ⟨g, cp, hv, hb, lt_heap hg⟩
theorem hist1 : newD 4 = (hd0, 0) := by kernel_rfl
theorem hd0_runs : runsB hd0 = true := by kernel_rfl
theorem hist2 {r : Nat} (hr : r ≤ 255) : stopD hd0 (r : Int) = (hd1 r, 0) := by
  unfold stopD
  rw [if_pos hd0_runs, if_pos (by omega)]
  rfl
set_option maxRecDepth 100000 in
set_option maxHeartbeats 20000000 in
theorem law6_go (w : World) (ac : List ActD) (u : Value) (ha : IsActs w (NB []) u ac) (r : Nat) (hr : r ≤ 255) (hx0 : ac.length ≤ 40) : Calls Try.prog 6 #[u, .int .u8 (r : Int)] w fun e w' => e = .returned (.bool true) ∧ Below w.heap.size w w' := by
  have Q0_w := Lib.hid ha
  clear ha
  have QQ := Q0_w
  obtain ⟨aA, aC, rfl, ha1, ha2, -⟩ := Q0_w.out
  go_enter Try.func6, Try.ntmps6
  go_wp2_with fail
  refine nameW fun W1 hW1 => ?_
  have kpW1 : Kp [] w W1 := by rw [hW1.out]; repeat (first | exact Kp.refl _ _ | refine Kp.alloc ?_ _ | refine Kp.setCell ?_ (by simp) _ _ | refine Kp.drew ?_ | refine Kp.drewN ?_ _)
  have bwW1 : Below w.heap.size w W1 := by rw [hW1.out]; repeat (first | exact Below.refl _ _ | refine Below.alloc ?_ (by (repeat (first | simp only [World.size_alloc] | simp only [size_set] | simp only [World.size_drew])); omega) _ | refine Below.setCell ?_ (by first | (dsimp only; omega) | omega) _ | refine Below.drew ?_ | refine below_drewN ?_ _)
  have szW1 : w.heap.size ≤ W1.heap.size := kpW1.size
  have inW1 : InW [] W1 := InW.nil _
  have Q0_W1 := Lib.hid ((Q0_w.out).kp kpW1)
  clear Q0_w
  have C1 := Lib.hid (sane_any W1)
  refine C1.out.mono ?_
  rintro e w1 ⟨rfl, hb1⟩
  have Q0_w1 := Lib.hid (Q0_W1.out.below hb1)
  have bww1 := Lib.hid (bwW1.trans (hb1.mono bwW1.size))
  have szw1 : W1.heap.size ≤ w1.heap.size := hb1.size
  clear Q0_W1
  clear kpW1 bwW1 inW1 hb1
  clear C1
  have hx1 : ¬ (40 : Int) < (ac.length : Int) := by omega
  go_wp2_with fail
  refine nameW fun W2 hW2 => ?_
  have kpW2 : Kp [] w1 W2 := by rw [hW2.out]; repeat (first | exact Kp.refl _ _ | refine Kp.alloc ?_ _ | refine Kp.setCell ?_ (by simp) _ _ | refine Kp.drew ?_ | refine Kp.drewN ?_ _)
  have bwW2 : Below w.heap.size w W2 := by rw [hW2.out]; repeat (first | exact bww1.out | refine Below.alloc ?_ (by (repeat (first | simp only [World.size_alloc] | simp only [size_set] | simp only [World.size_drew])); omega) _ | refine Below.setCell ?_ (by first | (dsimp only; omega) | omega) _ | refine Below.drew ?_ | refine below_drewN ?_ _)
  have szW2 : w1.heap.size ≤ W2.heap.size := kpW2.size
  have inW2 : InW [] W2 := InW.nil _
  have Q0_W2 := Lib.hid ((Q0_w1.out).kp kpW2)
  clear Q0_w1
  have C2 := Lib.hid (new_l [] W2 inW2 4)
  rw [hist1] at C2
  refine C2.out.mono ?_
  rintro e w2 ⟨v2, rfl, hD2, hb2⟩
  obtain ⟨sA2, sc2, pA2, pc2, rfl, -⟩ := hD2.parts
  have Q0_w2 := Lib.hid (Q0_W2.out.below hb2)
  have bww2 := Lib.hid (bwW2.trans (hb2.mono bwW2.size))
  have szw2 : W2.heap.size ≤ w2.heap.size := hb2.size
  clear Q0_W2
  clear kpW2 bwW2 inW2 hb2
  have D2_w2 := Lib.hid hD2
  clear hD2 C2
  have hwr : IntKind.i64.wrap (r : Int) = (r : Int) := IntWalk.i64_in _ (by omega)
  go_wp2_with fail
  refine nameW fun W3 hW3 => ?_
  have kpW3 : Kp [w2.heap.size] w2 W3 := by rw [hW3.out]; repeat (first | exact Kp.refl _ _ | refine Kp.alloc ?_ _ | refine Kp.setCell ?_ (by simp) _ _ | refine Kp.drew ?_ | refine Kp.drewN ?_ _)
  have bwW3 : Below w.heap.size w W3 := by rw [hW3.out]; repeat (first | exact bww2.out | refine Below.alloc ?_ (by (repeat (first | simp only [World.size_alloc] | simp only [size_set] | simp only [World.size_drew])); omega) _ | refine Below.setCell ?_ (by first | (dsimp only; omega) | omega) _ | refine Below.drew ?_ | refine below_drewN ?_ _)
  have szW3 : w2.heap.size ≤ W3.heap.size := kpW3.size
  have Bx_W3 : Hid (W3.heap[w2.heap.size]? = some (.cells #[.slice sA2 hd0.sectors.length sc2, .slice pA2 hd0.pending.length pc2, .int .i64 hd0.left, .bool hd0.stopped] 25 (0, 0))) := by show _ = _; rw [hW3.out]; (repeat (first | simp only [heap_drew] | simp only [World.heap_drewN] | simp only [heap_alloc_if] | simp only [heap_set_if] | simp only [World.size_alloc] | simp only [size_set] | simp only [World.size_drew])); (repeat (first | rw [if_pos trivial] | rw [if_pos (by omega)] | rw [if_neg (by omega)]))
  have ltx_W3 : w2.heap.size < W3.heap.size := lt_heap Bx_W3.out
  have mkx : w2.heap.size < W3.heap.size := ltx_W3
  have inW3 : InW [w2.heap.size] W3 := by intro b hb; simp at hb; omega
  have Q0_W3 := Lib.hid (((Q0_w2.out).box (n := w2.heap.size) (by omega)).kp kpW3)
  have D2_W3 := Lib.hid (((D2_w2.out).box (n := w2.heap.size) (by omega)).kp kpW3)
  clear Q0_w2 D2_w2
  have C3 := Lib.hid (stop_l [w2.heap.size] W3 hd0 _ D2_W3.out (r : Int))
  rw [hist2 hr] at C3
  refine C3.out.mono ?_
  rintro e w3 ⟨v3, rfl, hD3, hb3⟩
  obtain ⟨sA3, sc3, pA3, pc3, rfl, -⟩ := hD3.parts
  have Bx_w3 := Lib.hid ((hb3.block (w2.heap.size) (by omega)).trans Bx_W3.out)
  have ltx_w3 : w2.heap.size < w3.heap.size := lt_heap Bx_w3.out
  have Q0_w3 := Lib.hid (Q0_W3.out.below hb3)
  have D2_w3 := Lib.hid (D2_W3.out.below hb3)
  have bww3 := Lib.hid (bwW3.trans (hb3.mono bwW3.size))
  have szw3 : W3.heap.size ≤ w3.heap.size := hb3.size
  clear Bx_W3 ltx_W3 Q0_W3 D2_W3
  clear kpW3 bwW3 inW3 hb3
  have D3_w3 := Lib.hid hD3
  clear hD3 C3
  obtain ⟨⟨c0, c1, c2, c3⟩, ⟨cf0, cf1, cf2, cf3⟩⟩ := blk4 (Below.refl _ w3) Bx_w3.out (Nat.lt_succ_self _)
  go_wp2_with fail
  refine nameC fun WQ hWQ => ?_
  have D3X := D3_w3
  have kpWQ : Kp [w3.heap.size + 1, w3.heap.size, w2.heap.size] w3 WQ := by rw [hWQ.out]; repeat (first | exact Kp.refl _ _ | refine Kp.alloc ?_ _ | refine Kp.setCell ?_ (by simp) _ _ | refine Kp.drew ?_ | refine Kp.drewN ?_ _)
  have bwWQ : Below w.heap.size w WQ := by rw [hWQ.out]; repeat (first | exact bww3.out | refine Below.alloc ?_ (by (repeat (first | simp only [World.size_alloc] | simp only [size_set] | simp only [World.size_drew])); omega) _ | refine Below.setCell ?_ (by first | (dsimp only; omega) | omega) _ | refine Below.drew ?_ | refine below_drewN ?_ _)
  have szWQ : w3.heap.size ≤ WQ.heap.size := kpWQ.size
  have Bla_WQ : Hid (WQ.heap[w3.heap.size]? = some (.cells #[.int .u8 0, .int .u8 0, .int .u8 0, .int .u8 0] 44 (0, 0))) := by show _ = _; rw [hWQ.out]; (repeat (first | simp only [heap_drew] | simp only [World.heap_drewN] | simp only [heap_alloc_if] | simp only [heap_set_if] | simp only [World.size_alloc] | simp only [size_set] | simp only [World.size_drew])); (repeat (first | rw [if_pos trivial] | rw [if_pos (by omega)] | rw [if_neg (by omega)]))
  have ltla_WQ : w3.heap.size < WQ.heap.size := lt_heap Bla_WQ.out
  have mkla : w3.heap.size < WQ.heap.size := ltla_WQ
  have Bke_WQ : Hid (WQ.heap[w3.heap.size + 1]? = some (.cells #[.int .u8 0, .int .u8 0, .int .u8 0, .int .u8 0] 44 (0, 0))) := by show _ = _; rw [hWQ.out]; (repeat (first | simp only [heap_drew] | simp only [World.heap_drewN] | simp only [heap_alloc_if] | simp only [heap_set_if] | simp only [World.size_alloc] | simp only [size_set] | simp only [World.size_drew])); (repeat (first | rw [if_pos trivial] | rw [if_pos (by omega)] | rw [if_neg (by omega)]))
  have ltke_WQ : w3.heap.size + 1 < WQ.heap.size := lt_heap Bke_WQ.out
  have mkke : w3.heap.size + 1 < WQ.heap.size := ltke_WQ
  have Bx_WQ : Hid (WQ.heap[w2.heap.size]? = some (.cells #[.slice sA3 (hd1 r).sectors.length sc3, .slice pA3 (hd1 r).pending.length pc3, .int .i64 (hd1 r).left, .bool (hd1 r).stopped] 25 (0, 0))) := by show _ = _; rw [hWQ.out]; exact (by (repeat (first | simp only [heap_alloc_if] | simp only [World.size_alloc] | simp only [size_set])); (repeat (first | rw [if_pos trivial] | rw [if_pos (by omega)] | rw [if_neg (by omega)])); exact set4 Bx_w3.out _ _ _ _)
  have ltx_WQ : w2.heap.size < WQ.heap.size := lt_heap Bx_WQ.out
  have inWQ : InW [w3.heap.size + 1, w3.heap.size, w2.heap.size] WQ := by intro b hb; simp at hb; omega
  have Q0_WQ := Lib.hid ((((Q0_w3.out).box (n := w3.heap.size) (by omega)).box (n := w3.heap.size + 1) (by omega)).kp kpWQ)
  have D2_WQ := Lib.hid ((((D2_w3.out).box (n := w3.heap.size) (by omega)).box (n := w3.heap.size + 1) (by omega)).kp kpWQ)
  have D3_WQ := Lib.hid ((((D3_w3.out).box (n := w3.heap.size) (by omega)).box (n := w3.heap.size + 1) (by omega)).kp kpWQ)
  clear Bx_w3 ltx_w3 Q0_w3 D2_w3 D3_w3 c0 c1 c2 c3 cf0 cf1 cf2 cf3
  have BR_WQ : Hid (WQ.heap[w3.heap.size + 2]? = some (.cells #[] 46 (0, 0))) := by show _ = _; rw [hWQ.out]; (repeat (first | simp only [heap_alloc_if] | simp only [World.size_alloc] | simp only [size_set])); (repeat (first | rw [if_pos trivial] | rw [if_pos (by omega)] | rw [if_neg (by omega)]))
  have szQ := lt_heap BR_WQ.out
  have HIN := Lib.hid (inv_start r hr)
  go_loopw [10, 11, 12] (fun ws ro i wr => ∃ (k room gr cap sc5 pc5 : Nat) (D : DiskD) (last kept : Nat → UInt8) (wl : List ActD) (sA5 pA5 : Option Addr), k ≤ ac.length ∧ i = .int .i64 k ∧ ro = .int .i64 room ∧ ws = .slice (some ⟨gr, 0, none⟩) wl.length cap ∧ Hid (Inv D last kept wl room ∧ wl.length ≤ k) ∧ Hid (wr.heap[w2.heap.size]? = some (.cells #[.slice sA5 D.sectors.length sc5, .slice pA5 D.pending.length pc5, .int .i64 D.left, .bool D.stopped] 25 (0, 0)) ∧ IsDisk wr (NB (gr :: [w3.heap.size + 1, w3.heap.size, w2.heap.size])) (.agg #[.slice sA5 D.sectors.length sc5, .slice pA5 D.pending.length pc5, .int .i64 D.left, .bool D.stopped]) D) ∧ Hid (wr.heap[w3.heap.size]? = some (.cells (want4 last) 44 (0, 0)) ∧ wr.heap[(w3.heap.size + 1)]? = some (.cells (want4 kept) 44 (0, 0))) ∧ Hid (w3.heap.size + 2 ≤ gr ∧ wr.ownsRow (w3.heap.size + 2) 46 3 (.slice (some ⟨gr, 0, none⟩) wl.length cap) wl.length (actsFlat wl)) ∧ Hid (Below w.heap.size w wr)) (fun _ _ i _ => ac.length - (intOf i).toNat)
  case atStart =>
    refine ⟨0, r, w3.heap.size + 2, 0, sc3, pc3, hd1 r, _, _, [], sA3, pA3, Nat.zero_le _, rfl, rfl, rfl, Lib.hid ⟨HIN.out, Nat.le_refl _⟩, Lib.hid ⟨Bx_WQ.out, ?_⟩, Lib.hid ⟨Bla_WQ.out, Bke_WQ.out⟩, Lib.hid ⟨Nat.le_refl _, ?_⟩, Lib.hid bwWQ⟩
    · exact ((((D3X.out.box (n := w3.heap.size) (by omega)).box (n := w3.heap.size + 1) (by omega)).box (n := w3.heap.size + 2) (by omega)).kp (kpWQ.mono (fun b hb => List.mem_cons_of_mem _ hb)))
    · exact own_empty BR_WQ.out (Nat.le_refl _)
  case round =>
    obtain ⟨k, room, gr, cap, sc5, pc5, D, last, kept, wl, sA5, pA5, hk, rfl, rfl, rfl, HI, H5, H8, HO, HB⟩ := hrel
    by_cases hlt : k < ac.length
    · have hlt' : (k : Int) < (ac.length : Int) := by omega
      have szg := lt_heap H8.out.2
      have sz5 := lt_heap H5.out.1
      have hrow : gr < wr.heap.size := by obtain ⟨g, cp, e, -, h2⟩ := own_lt HO.out.2; cases e; exact h2
      have inw : InW (gr :: [w3.heap.size + 1, w3.heap.size, w2.heap.size]) wr := by intro b hb; simp at hb; omega
      obtain ⟨ab, ao, rfl, ca0, ca1, ca2⟩ := (QQ.out.below HB.out).at3 hlt
      have habl := lt_of_cell ca2
      dsimp only at habl
      obtain ⟨⟨c0, c1, c2, c3⟩, ⟨cf0, cf1, cf2, cf3⟩⟩ := blk4 (Below.refl _ wr) H5.out.1 (Nat.lt_succ_self _)
      have hpos : ((ac[k]).pos.toNat : Int) < 256 := by have := (ac[k]).pos.toNat_lt; omega
      have hk0 : (0 : Int) ≤ (k : Int) := by omega
      cases hsy : (ac[k]).sync with
      | false =>
        rw [hsy] at ca0
        have HSY := Lib.hid hsy
        clear hsy
        go_wp2_with fail
        rw [show ((ac[k]).pos.toNat : Int) % 4 = (((ac[k]).pos.toNat % 4 : Nat) : Int) from by omega]
        obtain ⟨e4, hI4⟩ := HI.out.1.write (ac[k]) (by have := HI.out.2; omega)
        obtain ⟨Z, hZ⟩ : ∃ Z, wrote D (((ac[k]).pos.toNat % 4 : Nat) : Int) [(ac[k]).byte] = Z := ⟨_, rfl⟩
        rw [hZ] at e4 hI4
        refine nameW fun WB hWB => ?_
        have hBB : Below wr.heap.size wr WB := by rw [hWB.out]; exact ((Below.refl _ _).alloc (Nat.le_refl _) _).alloc (by simp) _
        have hzB : WB.heap.size = wr.heap.size + 2 := by rw [hWB.out]; simp
        have bB : WB.heap[wr.heap.size + 1]? = some (.cells #[.int .u8 ((ac[k]).byte.toNat : Int)] 5 (0, 0)) := by rw [hWB.out]; exact heap2_1 _ _ _
        have bA : WB.heap[wr.heap.size]? = some (.cells #[.bool false, .int .u8 ((ac[k]).pos.toNat : Int), .int .u8 ((ac[k]).byte.toNat : Int)] 46 (0, 0)) := by rw [hWB.out]; exact heap2_0 _ _ _
        have C6 := Lib.hid (writeQ WB (H5.out.2.below hBB) (inw.mono hBB.size) e4 (wr.heap.size + 1) bB (NB.ge inw (by omega)))
        refine C6.out.mono ?_
        rintro e w6 ⟨sA6, sc6, pA6, pc6, rfl, hD6, hb6⟩
        have hB6 := hBB.trans (hb6.mono hBB.size)
        have A6 := Lib.hid ((hb6.block wr.heap.size (by omega)).trans bA)
        have X6 := Lib.hid ((hB6.block w2.heap.size (by omega)).trans H5.out.1)
        have L6 := Lib.hid ((hB6.block w3.heap.size (by omega)).trans H8.out.1)
        have E6 := Lib.hid ((hB6.block (w3.heap.size + 1) (by omega)).trans H8.out.2)
        have HB6 := Lib.hid hB6
        have HD6 := Lib.hid hD6
        have HI4 := Lib.hid hI4
        have sz6 := hB6.size
        have sz62 : wr.heap.size + 2 ≤ w6.heap.size := by have := hb6.size; omega
        clear hBB hzB bB bA C6 hb6 hB6 hD6 hI4 hZ e4 hWB c0 c1 c2 c3 cf0 cf1 cf2 cf3 ca0 ca1 ca2
        obtain ⟨⟨c0, c1, c2, c3⟩, ⟨cf0, cf1, cf2, cf3⟩⟩ := blk4 (Below.refl _ w6) X6.out (Nat.lt_succ_self _)
        have a1 := cell_of (j := 0) A6.out rfl
        have a2 := cell_of (j := 1) A6.out rfl
        have a3 := cell_of (j := 2) A6.out rfl
        have lt5 : w2.heap.size < w6.heap.size := by omega
        have lt8 : w3.heap.size < w6.heap.size := by omega
        have lta : wr.heap.size < w6.heap.size := by omega
        have ne85 : ¬ w3.heap.size = w2.heap.size := by omega
        have nea5 : ¬ wr.heap.size = w2.heap.size := by omega
        have nea8 : ¬ wr.heap.size = w3.heap.size := by omega
        obtain ⟨l1, lf1⟩ := blkj (j := (ac[k]).pos.toNat % 4) L6.out (by omega)
        have hm0 : (0 : Int) ≤ ((ac[k]).pos.toNat : Int) % 4 := by omega
        have hm4 : ((ac[k]).pos.toNat : Int) % 4 < 4 := by omega
        have hmt : (((ac[k]).pos.toNat : Int) % 4).toNat = (ac[k]).pos.toNat % 4 := by omega
        go_upto_region 22 with fail
        refine nameC fun WA hWA => ?_
        obtain ⟨xA, yA, oA, sA, bA⟩ := state5 (B := w.heap.size) X6.out L6.out (by omega) (by omega) (by omega) hWA.out
        rw [show Value.int .u8 ((ac[k]).byte.toNat : Int) = byt (ac[k]).byte from rfl, want4_upd] at yA
        have EA := Lib.hid ((oA (w3.heap.size + 1) (by omega) (by omega) (by omega)).trans E6.out)
        have AA := (oA wr.heap.size (by omega) (by omega) (by omega)).trans A6.out
        have hgr := HO.out.1
        have OA := Lib.hid (own_blk HO.out.2 ((oA gr (by omega) (by omega) (by omega)).trans (HB6.out.block gr (by omega))))
        have DA := Lib.hid (HD6.out.kp (w' := WA) ⟨by omega, fun b hb hn => oA b hb (fun e => hn (by rw [e]; simp)) (fun e => hn (by rw [e]; simp))⟩)
        have BA := Lib.hid ((HB.out.trans (HB6.out.mono HB.out.size)).trans bA)
        have XA := Lib.hid xA
        have YA := Lib.hid yA
        have szA : WA.heap.size = w6.heap.size + 1 := sA
        have SZA := Lib.hid szA
        have a1 := cell_of (j := 0) AA rfl
        have a2 := cell_of (j := 1) AA rfl
        have a3 := cell_of (j := 2) AA rfl
        have lwA : w6.heap.size ≤ WA.heap.size := by omega
        clear xA yA sA szA bA oA AA hWA l1 lf1 hm0 hm4 hmt lt5 lt8 lta ne85 nea5 nea8
        obtain ⟨i46, hi46, hz0, hz1, hz2⟩ := info_parts Try.info46
        have HI46 := Lib.hid (And.intro hi46 (And.intro hz0 (And.intro hz1 hz2)))
        clear hi46 hz0 hz1 hz2
        have ltaA : wr.heap.size < WA.heap.size := by omega
        go_wp2_with (at_builtin; refine wpList_append_cells _ rfl _ _ 43 rfl (w3.heap.size + 2) 46 i46 (.agg #[.bool false, .int .u8 0, .int .u8 0]) 3 3 Try.underlying43 HI46.out.1 HI46.out.2.1 HI46.out.2.2.1 HI46.out.2.2.2 rfl (by decide) _ wl.length (actsFlat wl) rfl (OA.out.alloc _) (some ⟨WA.heap.size, 0, none⟩) 1 1 [.bool false, .int .u8 ((ac[k]).pos.toNat : Int), .int .u8 ((ac[k]).byte.toNat : Int)] rfl rfl ?c1 ?c2 ?c3 ?c4 ?c5 ?_)
        case c1 => exact fun _ => ⟨_, rfl, cell_three_new _ _ _ _ _⟩
        case c2 => exact one_act _ _
        case c3 => unfold maxLen; have := HI.out.1.few; omega
        case c4 => have := HI.out.1.few; omega
        case c5 => simp; omega
        intro v7 w7 hown7 hgrow7 hblk7
        rw [actsFlat_snoc wl _ HSY.out] at hown7
        obtain ⟨gr', cap', rfl, hgb, hgl, hD7, hk7, hs7⟩ := own_next DA.out hgrow7 (hblk7.imp (fun e => e.trans rfl) (fun e => e.trans (by simp))) hown7
        have B7 := Lib.hid (((BA.out.alloc (by have := BA.out.size; omega) _).grown hgrow7 (by have := BA.out.size; simp; omega) (fun k e => by cases e; have := HO.out.1; have := HB.out.size; dsimp only; omega)))
        have Z7 := Lib.hid SZA.out
        have X7 := Lib.hid ((hk7 w2.heap.size (by have := SZA.out; omega) (by have := HO.out.1; omega)).trans XA.out)
        have L7 : Hid (w7.heap[w3.heap.size]? = some (.cells #[byt (upd last ac[k] 0), byt (upd last ac[k] 1), byt (upd last ac[k] 2), byt (upd last ac[k] 3)] 44 (0, 0))) := (hk7 w3.heap.size (by have := SZA.out; omega) (by have := HO.out.1; omega)).trans YA.out
        have E7 := Lib.hid ((hk7 (w3.heap.size + 1) (by have := SZA.out; omega) (by have := HO.out.1; omega)).trans EA.out)
        have D7 := Lib.hid hD7
        have O7 := Lib.hid hown7
        have G7 := Lib.hid hgb
        have in7 : InW (gr' :: [w3.heap.size + 1, w3.heap.size, w2.heap.size]) w7 := by intro b hb; have := SZA.out; simp at hb; omega
        clear hown7 hgrow7 hblk7 hD7 hk7 hgb hgl a1 a2 a3 c0 c1 c2 c3 cf0 cf1 cf2 cf3
        obtain ⟨⟨c0, c1, c2, c3⟩, -⟩ := blk4 (Below.refl _ w7) X7.out (Nat.lt_succ_self _)
        obtain ⟨⟨d0, d1, d2, d3⟩, -⟩ := blk4 (Below.refl _ w7) L7.out (Nat.lt_succ_self _)
        go_wp2_with fail
        have C8 := Lib.hid (holds_any w7 _ Z _ D7.out in7 (upd last ac[k]) HI4.out.holds)
        refine C8.out.mono ?_
        rintro e w8 ⟨rfl, hb8⟩
        have X8 := Lib.hid ((hb8.block w2.heap.size (by have := lt_heap X7.out; omega)).trans X7.out)
        have L8 := Lib.hid ((hb8.block w3.heap.size (by have := lt_heap L7.out; omega)).trans L7.out)
        have E8 := Lib.hid ((hb8.block (w3.heap.size + 1) (by have := lt_heap E7.out; omega)).trans E7.out)
        have D8 := Lib.hid (D7.out.below hb8)
        have O8 := Lib.hid (own_blk O7.out (hb8.block gr' (in7 gr' (by simp))))
        have B8 := Lib.hid (B7.out.trans (hb8.mono B7.out.size))
        clear C8 hb8 c0 c1 c2 c3 d0 d1 d2 d3
        go_wp2_with fail
        go_roundw
        case rel => exact ⟨k + 1, room, gr', cap', sc6, pc6, Z, upd last ac[k], kept, wl ++ [ac[k]], sA6, pA6, by omega, by go_num, rfl, by rw [List.length_append]; rfl, Lib.hid ⟨HI4.out, by have := HI.out.2; simp; omega⟩, Lib.hid ⟨X8.out, D8.out⟩, Lib.hid ⟨L8.out, E8.out⟩, Lib.hid ⟨G7.out, by have := O8.out; rw [List.length_append]; exact this⟩, B8⟩
        case measure => simp [intOf]; omega
      | true =>
        rw [hsy] at ca0
        have HSY := Lib.hid hsy
        clear hsy
        go_wp2_with fail
        refine nameW fun WB hWB => ?_
        have hBB : Below wr.heap.size wr WB := by rw [hWB.out]; exact (Below.refl _ _).alloc (Nat.le_refl _) _
        have hzB : WB.heap.size = wr.heap.size + 1 := by rw [hWB.out]; simp
        have C6 := Lib.hid (sync_l (gr :: [w3.heap.size + 1, w3.heap.size, w2.heap.size]) WB (inw.mono hBB.size) D _ (H5.out.2.below hBB))
        obtain ⟨X, c, hS⟩ : ∃ X c, syncD D = (X, c) := ⟨_, _, rfl⟩
        rw [hS] at C6
        have HS := Lib.hid hS
        clear hS
        refine C6.out.mono ?_
        rintro e w6 ⟨v6, rfl, hD6, hb6⟩
        obtain ⟨sA6, sc6, pA6, pc6, rfl, -⟩ := hD6.parts
        have hB6 := hBB.trans (hb6.mono hBB.size)
        have X6 := Lib.hid ((hB6.block w2.heap.size (by omega)).trans H5.out.1)
        have L6 := Lib.hid ((hB6.block w3.heap.size (by omega)).trans H8.out.1)
        have E6 := Lib.hid ((hB6.block (w3.heap.size + 1) (by omega)).trans H8.out.2)
        have O6 := Lib.hid (own_blk HO.out.2 (hB6.block gr hrow))
        have HB6 := Lib.hid hB6
        have HD6 := Lib.hid hD6
        have sz6 := hB6.size
        clear hBB hzB C6 hb6 hB6 hD6 hWB c0 c1 c2 c3 cf0 cf1 cf2 cf3 ca0 ca1 ca2
        go_upto_block 2 with fail
        refine nameC fun WS hWS => ?_
        have hBS : Below w6.heap.size w6 WS := by rw [hWS.out]; exact (Below.refl _ _).alloc (Nat.le_refl _) _
        have hzS : WS.heap.size = w6.heap.size + 1 := by rw [hWS.out]; simp
        have N7 := Lib.hid (show WS.heap[w6.heap.size]? = some (.cells #[.slice sA6 X.sectors.length sc6, .slice pA6 X.pending.length pc6, .int .i64 X.left, .bool X.stopped] 25 (0, 0)) from by rw [hWS.out]; exact heap_alloc_new _ _)
        have X7 := Lib.hid ((hBS.block w2.heap.size (by omega)).trans X6.out)
        have L7 := Lib.hid ((hBS.block w3.heap.size (by omega)).trans L6.out)
        have E7 := Lib.hid ((hBS.block (w3.heap.size + 1) (by omega)).trans E6.out)
        have O7 := Lib.hid (own_blk O6.out (hBS.block gr (by omega)))
        have D7 := Lib.hid (HD6.out.below hBS)
        have B7 := Lib.hid ((HB.out.trans (HB6.out.mono HB.out.size)).trans (hBS.mono (by have := HB.out.size; omega)))
        have lgr := HO.out.1
        clear hBS hWS X6 L6 E6 O6 HD6 HB6
        go_cut [11] (fun ro wx => ro = .int .i64 ((room - min room wl.length : Nat) : Int) ∧ Hid (wx.heap[w3.heap.size + 1]? = some (.cells (want4 (keptF kept (wl.take room))) 44 (0, 0)) ∧ Kp [w3.heap.size + 1] WS wx ∧ Below w.heap.size w wx))
        case first =>
          go_wp2_with fail
          go_loopw [11, 18] (fun ro i wq => ∃ j : Nat, j ≤ wl.length ∧ j ≤ room ∧ (0 < wl.length → j < wl.length) ∧ i = .int .i64 j ∧ ro = .int .i64 ((room - j : Nat) : Int) ∧ Hid (wq.heap[w3.heap.size + 1]? = some (.cells (want4 (keptF kept (wl.take j))) 44 (0, 0)) ∧ Kp [w3.heap.size + 1] WS wq ∧ Below w.heap.size w wq)) (fun _ i _ => wl.length - (intOf i).toNat)
          case atStart => exact ⟨0, by omega, by omega, fun h => h, rfl, rfl, Lib.hid ⟨E7.out, Kp.refl _ _, B7.out⟩⟩
          case round =>
            obtain ⟨j, hj1, hj2, hj3, rfl, rfl, HJ⟩ := hrel
            have hm255 := HI.out.1.room; have hm40 := HI.out.1.few
            by_cases hgo : j < wl.length ∧ j < room
            · obtain ⟨hg1, hg2⟩ := hgo
              have szq := HJ.out.2.1.size
              have OQ := Lib.hid (own_blk O7.out (HJ.out.2.1.block gr (by omega) (by simp; omega)))
              obtain ⟨p1, p2⟩ := act_cells OQ.out hg1
              obtain ⟨l1, lf1⟩ := blkj (j := (wl[j]).pos.toNat % 4) HJ.out.1 (by omega)
              have KS := Lib.hid (kept_step HJ.out.1 hg1)
              have hi1 : (j : Int) < (wl.length : Int) := by omega
              have hi2 : (0 : Int) < ((room - j : Nat) : Int) := by omega
              have hi3 : (0 : Int) ≤ (j : Int) := by omega
              obtain ⟨q, hq⟩ : ∃ q, (wl[j]).pos.toNat % 4 = q := ⟨_, rfl⟩
              rw [hq] at l1 lf1 KS
              have hq4 : (q : Int) < 4 := by omega
              have hq0 : (0 : Int) ≤ (q : Int) := by omega
              have hmod : Int.tmod ((wl[j]).pos.toNat : Int) 4 = (q : Int) := by rw [← hq]; exact Int.tmod_eq_emod_of_nonneg (by omega)
              have HQ := Lib.hid hq
              clear hq
              have hrm : ((room - j : Nat) : Int) - 1 = ((room - (j + 1) : Nat) : Int) := by omega
              by_cases hl : j + 1 = wl.length
              · have hl' : ((j : Int) == (wl.length : Int) - 1) = true := by simp; omega
                have HL := Lib.hid hl
                clear hl
                go_wp2_with fail
                go_still_tail 12, (by kernel_rfl)
                change wpList _ _ _ _ _ wr.drew
                go_wp2_with fail
                go_meet
                case rel => exact ⟨by rw [show room - (j + 1) = room - min room wl.length by have := HL.out; omega], Lib.hid ⟨by rw [show wl.take room = wl.take (j + 1) by rw [List.take_of_length_le (by have := HL.out; omega), List.take_of_length_le (by have := HL.out; omega)]]; exact KS.out, HJ.out.2.1.trans (((Kp.refl _ _).setCell (by simp) _ _).drew), (HJ.out.2.2.setCell (by dsimp only; omega) _).drew⟩⟩
              · have hl' : ((j : Int) == (wl.length : Int) - 1) = false := by simp; omega
                have HL := Lib.hid hl
                clear hl
                go_wp2_with fail
                go_still_tail 12, (by kernel_rfl)
                change wpList _ _ _ _ _ wr.drew
                go_wp2_with fail
                go_roundw
                case rel => exact ⟨j + 1, by omega, by omega, fun _ => by have := HL.out; omega, by go_num, rfl, Lib.hid ⟨KS.out, HJ.out.2.1.trans (((Kp.refl _ _).setCell (by simp) _ _).drew), (HJ.out.2.2.setCell (by dsimp only; omega) _).drew⟩⟩
                case measure => simp [intOf]; omega
            · have htk : wl.take room = wl.take j := by
                by_cases e : j < wl.length
                · rw [show room = j by omega]
                · rw [List.take_of_length_le (by omega), List.take_of_length_le (by omega)]
              have HTK := Lib.hid htk
              clear htk
              by_cases h1 : j < wl.length
              · have hi1 : (j : Int) < (wl.length : Int) := by omega
                have hi2 : ¬ (0 : Int) < ((room - j : Nat) : Int) := by omega
                go_wp2_with fail
                go_meet
                case rel => exact ⟨by rw [show room - j = room - min room wl.length by omega], Lib.hid ⟨by rw [HTK.out]; exact HJ.out.1, HJ.out.2.1, HJ.out.2.2⟩⟩
              · have hi1 : ¬ (j : Int) < (wl.length : Int) := by omega
                go_wp2_with fail
                go_meet
                case rel => exact ⟨by rw [show room - j = room - min room wl.length by omega], Lib.hid ⟨by rw [HTK.out]; exact HJ.out.1, HJ.out.2.1, HJ.out.2.2⟩⟩
        case rest =>
          obtain ⟨rfl, HC⟩ := hcut
          have szc := HC.out.2.1.size
          have bkS : ∀ b, b < WS.heap.size → b ≠ w3.heap.size + 1 → wc.heap[b]? = WS.heap[b]? := fun b hb hn => HC.out.2.1.block b hb (by simpa using hn)
          have X8 := Lib.hid ((bkS w2.heap.size (by omega) (by omega)).trans X7.out)
          have L8 := Lib.hid ((bkS w3.heap.size (by omega) (by omega)).trans L7.out)
          have N8 := Lib.hid ((bkS w6.heap.size (by omega) (by omega)).trans N7.out)
          have E8 := Lib.hid HC.out.1
          have D8 := Lib.hid (D7.out.kp (HC.out.2.1.mono (by intro b hb; simp at hb; subst hb; simp)))
          have B8 := Lib.hid HC.out.2.2
          have inw8 : InW (gr :: [w3.heap.size + 1, w3.heap.size, w2.heap.size]) wc := inw.mono (by omega)
          clear bkS HC X7 L7 N7 E7 D7 B7 O7
          have L8v : Hid (wc.heap[w3.heap.size]? = some (.cells #[byt (last 0), byt (last 1), byt (last 2), byt (last 3)] 44 (0, 0))) := L8
          have hI := HI.out
          by_cases hw : wl.length ≤ room
          · obtain ⟨e1, e2, hI2⟩ := hI.1.sync hw
            have hXc := HS.out.symm.trans e1
            obtain ⟨rfl, rfl⟩ : X = synced D ∧ c = 0 := by injection hXc with h1 h2; exact ⟨h1, h2⟩
            have htk : wl.take room = wl := List.take_of_length_le hw
            rw [htk, e2] at E8
            have E8v : Hid (wc.heap[w3.heap.size + 1]? = some (.cells #[byt (last 0), byt (last 1), byt (last 2), byt (last 3)] 44 (0, 0))) := E8
            have hmin : min room wl.length = wl.length := Nat.min_eq_right hw
            have HMIN := Lib.hid hmin
            have HI2 := Lib.hid hI2
            clear hI hI2 e1 e2 hXc htk hmin
            obtain ⟨⟨d0, d1, d2, d3⟩, -⟩ := blk4 (Below.refl _ wc) L8v.out (Nat.lt_succ_self _)
            obtain ⟨⟨e0, e1, e2, e3⟩, -⟩ := blk4 (Below.refl _ wc) E8v.out (Nat.lt_succ_self _)
            obtain ⟨⟨n0, n1, n2, n3⟩, -⟩ := blk4 (Below.refl _ wc) N8.out (Nat.lt_succ_self _)
            have lt5 : w2.heap.size < wc.heap.size := lt_heap X8.out
            have lt8 : w3.heap.size < wc.heap.size := lt_heap L8.out
            have lt9 : w3.heap.size + 1 < wc.heap.size := lt_heap E8.out
            have lt6 : w6.heap.size < wc.heap.size := lt_heap N8.out
            have ne65 : ¬ w6.heap.size = w2.heap.size := by omega
            have ne85 : ¬ w3.heap.size = w2.heap.size := by omega
            have ne95 : ¬ w3.heap.size + 1 = w2.heap.size := by omega
            obtain ⟨⟨c0, c1, c2, c3⟩, ⟨xf0, xf1, xf2, xf3⟩⟩ := blk4 (Below.refl _ wc) X8.out (Nat.lt_succ_self _)
            have hG := Try.guard44
            have hE : ∀ w, (Op.equalIn 10000 44 (.agg #[byt (last 0), byt (last 1), byt (last 2), byt (last 3)]) (.agg #[byt (last 0), byt (last 1), byt (last 2), byt (last 3)])).run Try.prog w = .ok true w := fun w => by rw [eq44, eqB_self]
            by_cases h0 : wl.length = 0
            · have h0' : ¬ (0 : Int) < (wl.length : Int) := by omega
              have H0 := Lib.hid h0; clear h0
              go_upto_region 37 with fail
              refine nameC fun WY hWY => ?_
              obtain ⟨xY, oY, sY, bY, nY⟩ := state4 (B := w.heap.size) X8.out (by omega) hWY.out
              have XY := Lib.hid xY
              have LY : Hid (WY.heap[w3.heap.size]? = some (.cells #[byt (last 0), byt (last 1), byt (last 2), byt (last 3)] 44 (0, 0))) := (oY w3.heap.size (by omega) (by omega)).trans L8.out
              have EY := Lib.hid ((oY (w3.heap.size + 1) (by omega) (by omega)).trans E8.out)
              have NY := Lib.hid nY
              have DY := Lib.hid ((D8.out.box (n := wc.heap.size) (Nat.le_refl _)).kp (w' := WY) ⟨by omega, fun b hb hn => oY b hb (fun e => hn (by rw [e]; simp))⟩)
              have BY := Lib.hid (B8.out.trans bY)
              have inY : InW (wc.heap.size :: [w3.heap.size + 1, w3.heap.size, w2.heap.size]) WY := by intro b hb; simp at hb; omega
              clear xY oY sY bY nY hWY c0 c1 c2 c3 d0 d1 d2 d3 e0 e1 e2 e3 n0 n1 n2 n3 xf0 xf1 xf2 xf3 lt5 lt8 lt9 lt6 ne65 ne85 ne95 hG hE
              obtain ⟨⟨c0, c1, c2, c3⟩, -⟩ := blk4 (Below.refl _ WY) XY.out (Nat.lt_succ_self _)
              obtain ⟨⟨d0, d1, d2, d3⟩, -⟩ := blk4 (Below.refl _ WY) LY.out (Nat.lt_succ_self _)
              go_wp2_with fail
              have CY := Lib.hid (holds_any WY (wc.heap.size :: [w3.heap.size + 1, w3.heap.size, w2.heap.size]) (synced D) _ (DY.out.mono (by intro b hb hM hm; exact hM (by rcases List.mem_cons.1 hm with e | e; exact List.mem_cons.2 (.inl e); exact List.mem_cons.2 (.inr (List.mem_cons_of_mem _ e))))) inY last HI2.out.holds)
              refine CY.out.mono ?_
              rintro e w8 ⟨rfl, hb8⟩
              have XZ := Lib.hid ((hb8.block w2.heap.size (by have := lt_heap XY.out; omega)).trans XY.out)
              have LZ := Lib.hid ((hb8.block w3.heap.size (by have := lt_heap LY.out; omega)).trans LY.out)
              have EZ := Lib.hid ((hb8.block (w3.heap.size + 1) (by have := lt_heap EY.out; omega)).trans EY.out)
              have NZ := Lib.hid ((hb8.block wc.heap.size (inY _ (by simp))).trans NY.out)
              have DZ := Lib.hid (DY.out.below hb8)
              have BZ := Lib.hid (BY.out.trans (hb8.mono BY.out.size))
              clear CY hb8 c0 c1 c2 c3 d0 d1 d2 d3
              go_wp2_with fail
              go_roundw
              case rel => exact ⟨k + 1, room - wl.length, wc.heap.size, 0, sc6, pc6, synced D, last, last, [], sA6, pA6, by omega, by go_num, rfl, rfl, Lib.hid ⟨HI2.out, by simp⟩, Lib.hid ⟨XZ.out, DZ.out.mono (by intro b hb hM hm; exact hM (by rcases List.mem_cons.1 hm with e | e; exact List.mem_cons.2 (.inl e); exact List.mem_cons.2 (.inr (List.mem_cons_of_mem _ e))))⟩, Lib.hid ⟨LZ.out, EZ.out⟩, Lib.hid ⟨by omega, own_empty NZ.out (by omega)⟩, BZ⟩
              case measure => simp [intOf]; omega
            · have h0' : (0 : Int) < (wl.length : Int) := by omega
              have H0 := Lib.hid h0; clear h0
              go_upto_region 37 with fail
              refine nameC fun WY hWY => ?_
              obtain ⟨xY, oY, sY, bY, nY⟩ := state4 (B := w.heap.size) X8.out (by omega) hWY.out
              have XY := Lib.hid xY
              have LY : Hid (WY.heap[w3.heap.size]? = some (.cells #[byt (last 0), byt (last 1), byt (last 2), byt (last 3)] 44 (0, 0))) := (oY w3.heap.size (by omega) (by omega)).trans L8.out
              have EY := Lib.hid ((oY (w3.heap.size + 1) (by omega) (by omega)).trans E8.out)
              have NY := Lib.hid nY
              have DY := Lib.hid ((D8.out.box (n := wc.heap.size) (Nat.le_refl _)).kp (w' := WY) ⟨by omega, fun b hb hn => oY b hb (fun e => hn (by rw [e]; simp))⟩)
              have BY := Lib.hid (B8.out.trans bY)
              have inY : InW (wc.heap.size :: [w3.heap.size + 1, w3.heap.size, w2.heap.size]) WY := by intro b hb; simp at hb; omega
              clear xY oY sY bY nY hWY c0 c1 c2 c3 d0 d1 d2 d3 e0 e1 e2 e3 n0 n1 n2 n3 xf0 xf1 xf2 xf3 lt5 lt8 lt9 lt6 ne65 ne85 ne95 hG hE
              obtain ⟨⟨c0, c1, c2, c3⟩, -⟩ := blk4 (Below.refl _ WY) XY.out (Nat.lt_succ_self _)
              obtain ⟨⟨d0, d1, d2, d3⟩, -⟩ := blk4 (Below.refl _ WY) LY.out (Nat.lt_succ_self _)
              go_wp2_with fail
              have CY := Lib.hid (holds_any WY (wc.heap.size :: [w3.heap.size + 1, w3.heap.size, w2.heap.size]) (synced D) _ (DY.out.mono (by intro b hb hM hm; exact hM (by rcases List.mem_cons.1 hm with e | e; exact List.mem_cons.2 (.inl e); exact List.mem_cons.2 (.inr (List.mem_cons_of_mem _ e))))) inY last HI2.out.holds)
              refine CY.out.mono ?_
              rintro e w8 ⟨rfl, hb8⟩
              have XZ := Lib.hid ((hb8.block w2.heap.size (by have := lt_heap XY.out; omega)).trans XY.out)
              have LZ := Lib.hid ((hb8.block w3.heap.size (by have := lt_heap LY.out; omega)).trans LY.out)
              have EZ := Lib.hid ((hb8.block (w3.heap.size + 1) (by have := lt_heap EY.out; omega)).trans EY.out)
              have NZ := Lib.hid ((hb8.block wc.heap.size (inY _ (by simp))).trans NY.out)
              have DZ := Lib.hid (DY.out.below hb8)
              have BZ := Lib.hid (BY.out.trans (hb8.mono BY.out.size))
              clear CY hb8 c0 c1 c2 c3 d0 d1 d2 d3
              go_wp2_with fail
              go_roundw
              case rel => exact ⟨k + 1, room - wl.length, wc.heap.size, 0, sc6, pc6, synced D, last, last, [], sA6, pA6, by omega, by go_num, rfl, rfl, Lib.hid ⟨HI2.out, by simp⟩, Lib.hid ⟨XZ.out, DZ.out.mono (by intro b hb hM hm; exact hM (by rcases List.mem_cons.1 hm with e | e; exact List.mem_cons.2 (.inl e); exact List.mem_cons.2 (.inr (List.mem_cons_of_mem _ e))))⟩, Lib.hid ⟨LZ.out, EZ.out⟩, Lib.hid ⟨by omega, own_empty NZ.out (by omega)⟩, BZ⟩
              case measure => simp [intOf]; omega
          · obtain ⟨e1, e2, hh⟩ := hI.1.halt (by omega)
            have hXc := HS.out.symm.trans e1
            obtain ⟨rfl, rfl⟩ : X = halted D ∧ c = 340 := by injection hXc with h1 h2; exact ⟨h1, h2⟩
            have HH := Lib.hid hh
            have h0' : (0 : Int) < (wl.length : Int) := by omega
            rw [e2] at N8
            obtain ⟨kf, hkf⟩ : ∃ kf, keptF kept (wl.take room) = kf := ⟨_, rfl⟩
            rw [hkf] at E8 HH
            have E8v : Hid (wc.heap[w3.heap.size + 1]? = some (.cells #[byt (kf 0), byt (kf 1), byt (kf 2), byt (kf 3)] 44 (0, 0))) := E8
            rw [e2] at D8
            have lt5 : w2.heap.size < wc.heap.size := lt_heap X8.out
            have lt8 : w3.heap.size < wc.heap.size := lt_heap L8.out
            have lt9 : w3.heap.size + 1 < wc.heap.size := lt_heap E8.out
            have lt6 : w6.heap.size < wc.heap.size := lt_heap N8.out
            have ne65 : ¬ w6.heap.size = w2.heap.size := by omega
            have ne85 : ¬ w3.heap.size = w2.heap.size := by omega
            have ne95 : ¬ w3.heap.size + 1 = w2.heap.size := by omega
            clear hI hh e1 e2 hXc hkf
            have hG := Try.guard44
            have hE := eq44 kf last
            obtain ⟨⟨d0, d1, d2, d3⟩, -⟩ := blk4 (Below.refl _ wc) L8v.out (Nat.lt_succ_self _)
            obtain ⟨⟨e0, e1, e2, e3⟩, -⟩ := blk4 (Below.refl _ wc) E8v.out (Nat.lt_succ_self _)
            obtain ⟨⟨n0, n1, n2, n3⟩, -⟩ := blk4 (Below.refl _ wc) N8.out (Nat.lt_succ_self _)
            go_upto_region 33 with fail
            refine nameC fun WY hWY => ?_
            have bY : Below wc.heap.size wc WY := by rw [hWY.out]; exact (Below.refl _ _).alloc (Nat.le_refl _) _
            have NY := Lib.hid ((bY.block w6.heap.size lt6).trans N8.out)
            have EY : Hid (WY.heap[w3.heap.size + 1]? = some (.cells #[byt (kf 0), byt (kf 1), byt (kf 2), byt (kf 3)] 44 (0, 0))) := (bY.block (w3.heap.size + 1) lt9).trans E8v.out
            have DY := Lib.hid (D8.out.below bY)
            have BY := Lib.hid (B8.out.trans (bY.mono B8.out.size))
            have inY : InW (gr :: [w3.heap.size + 1, w3.heap.size, w2.heap.size]) WY := inw8.mono bY.size
            have szY := bY.size
            have lt6Y : w6.heap.size < WY.heap.size := by omega
            have lt9Y : w3.heap.size + 1 < WY.heap.size := by omega
            clear bY hWY d0 d1 d2 d3 e0 e1 e2 e3 n0 n1 n2 n3 hG hE
            have hBd : Below WY.heap.size WY WY.drew := (Below.refl _ _).drew
            obtain ⟨⟨c0, c1, c2, c3⟩, -⟩ := blk4 (Below.refl _ WY) NY.out (Nat.lt_succ_self _)
            obtain ⟨⟨d0, d1, d2, d3⟩, -⟩ := blk4 (Below.refl _ WY) EY.out (Nat.lt_succ_self _)
            go_region_held3 (fun w' => w'.cell? ⟨w6.heap.size, 0, none⟩ = some (.slice sA6 (halted D).sectors.length sc6) ∧ w'.cell? ⟨w6.heap.size, 1, none⟩ = some (.slice pA6 (halted D).pending.length pc6) ∧ w'.cell? ⟨w6.heap.size, 2, none⟩ = some (.int .i64 (halted D).left) ∧ w'.cell? ⟨w6.heap.size, 3, none⟩ = some (.bool true) ∧ w'.cell? ⟨w3.heap.size + 1, 0, none⟩ = some (byt (kf 0)) ∧ w'.cell? ⟨w3.heap.size + 1, 1, none⟩ = some (byt (kf 1)) ∧ w'.cell? ⟨w3.heap.size + 1, 2, none⟩ = some (byt (kf 2)) ∧ w'.cell? ⟨w3.heap.size + 1, 3, none⟩ = some (byt (kf 3))) (first | with_reducible exact ⟨c0, c1, c2, c3, d0, d1, d2, d3⟩ | go_keep) (first | (go_at_call 17; (refine (restart_l (gr :: [w3.heap.size + 1, w3.heap.size, w2.heap.size]) _ (halted D) _ (DY.out.below (by assumption))).mono ?_); rintro e w7 ⟨v7, rfl, hD7, hb7⟩; obtain ⟨sA7, sc7, pA7, pc7, rfl, -⟩ := hD7.parts; have hBd : Below WY.heap.size WY w7 := Below.trans (by assumption) (hb7.mono (by have hq := (show Below WY.heap.size WY _ from by assumption).size; omega)); obtain ⟨⟨c0, c1, c2, c3⟩, -⟩ := blk4 hBd NY.out lt6Y; obtain ⟨⟨d0, d1, d2, d3⟩, -⟩ := blk4 hBd EY.out lt9Y; have inw7 := inY.mono hBd.size) | (go_at_call 27; (refine (holds_any _ _ (restartD (halted D)) _ hD7 inw7 kf HH.out).mono ?_); rintro e w7 ⟨rfl, hb7⟩; have hBd : Below WY.heap.size WY w7 := Below.trans (by assumption) (hb7.mono (by have hq := (show Below WY.heap.size WY _ from by assumption).size; omega)); obtain ⟨⟨c0, c1, c2, c3⟩, -⟩ := blk4 hBd NY.out lt6Y; obtain ⟨⟨d0, d1, d2, d3⟩, -⟩ := blk4 hBd EY.out lt9Y))
            all_goals (go_wp2_with fail; go_ret; exact ⟨rfl, BY.out.trans (hBd.mono BY.out.size)⟩)
    · have hnl : ¬ (k : Int) < (ac.length : Int) := by omega
      have szg := lt_heap H8.out.2
      have sz5 := lt_heap H5.out.1
      have hrow : gr < wr.heap.size := by obtain ⟨g, cp, e, -, h2⟩ := own_lt HO.out.2; cases e; exact h2
      have inw : InW (gr :: [w3.heap.size + 1, w3.heap.size, w2.heap.size]) wr := by intro b hb; simp at hb; omega
      have hBd : Below wr.heap.size wr wr.drew := (Below.refl _ _).drew
      have KE : Hid (wr.heap[w3.heap.size + 1]? = some (.cells #[byt (kept 0), byt (kept 1), byt (kept 2), byt (kept 3)] 44 (0, 0))) := H8.out.2
      obtain ⟨⟨c0, c1, c2, c3⟩, -⟩ := blk4 (Below.refl _ wr) H5.out.1 (Nat.lt_succ_self _)
      obtain ⟨⟨d0, d1, d2, d3⟩, -⟩ := blk4 (Below.refl _ wr) KE.out (Nat.lt_succ_self _)
      go_wp2_with fail
      go_region_held3 (fun w' => w'.cell? ⟨w2.heap.size, 0, none⟩ = some (.slice sA5 D.sectors.length sc5) ∧ w'.cell? ⟨w2.heap.size, 1, none⟩ = some (.slice pA5 D.pending.length pc5) ∧ w'.cell? ⟨w2.heap.size, 2, none⟩ = some (.int .i64 D.left) ∧ w'.cell? ⟨w2.heap.size, 3, none⟩ = some (.bool D.stopped) ∧ w'.cell? ⟨w3.heap.size + 1, 0, none⟩ = some (byt (kept 0)) ∧ w'.cell? ⟨w3.heap.size + 1, 1, none⟩ = some (byt (kept 1)) ∧ w'.cell? ⟨w3.heap.size + 1, 2, none⟩ = some (byt (kept 2)) ∧ w'.cell? ⟨w3.heap.size + 1, 3, none⟩ = some (byt (kept 3))) (first | with_reducible exact ⟨c0, c1, c2, c3, d0, d1, d2, d3⟩ | go_keep) (first | (go_at_call 17; (refine (restart_l (gr :: [w3.heap.size + 1, w3.heap.size, w2.heap.size]) _ D _ (H5.out.2.below (by assumption))).mono ?_); rintro e w6 ⟨v7, rfl, hD7, hb6⟩; obtain ⟨sA7, sc7, pA7, pc7, rfl, -⟩ := hD7.parts; have hBd : Below wr.heap.size wr w6 := Below.trans (by assumption) (hb6.mono (by have hq := (show Below wr.heap.size wr _ from by assumption).size; omega)); obtain ⟨⟨c0, c1, c2, c3⟩, -⟩ := blk4 hBd H5.out.1 (by omega); obtain ⟨⟨d0, d1, d2, d3⟩, -⟩ := blk4 hBd KE.out (by omega); have inw7 := inw.mono hBd.size) | (go_at_call 27; (refine (holds_any _ _ (restartD D) _ hD7 inw7 kept (holds_restart HI.out.1.sec)).mono ?_); rintro e w6 ⟨rfl, hb6⟩; have hBd : Below wr.heap.size wr w6 := Below.trans (by assumption) (hb6.mono (by have hq := (show Below wr.heap.size wr _ from by assumption).size; omega)); obtain ⟨⟨c0, c1, c2, c3⟩, -⟩ := blk4 hBd H5.out.1 (by omega); obtain ⟨⟨d0, d1, d2, d3⟩, -⟩ := blk4 hBd KE.out (by omega)))
      all_goals (go_wp2_with fail; go_ret; exact ⟨rfl, HB.out.trans (hBd.mono HB.out.size)⟩)
end Go.Proofs.Ytjmafnkknohinaa
