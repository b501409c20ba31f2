/- newLinks. -/
import Derived.Test.YtikddknhcfhnbaaB4
namespace Go.Proofs.Ytikddknhcfhnbaa
open Go.RowKit
/-- what newLinks hands back -/
def NewLinks (w : World) (l : List ArcD) (e : Ending) (w' : World) : Prop := ∃ base g lb X, e = .returned (.pointer (some ⟨g, 0, none⟩)) ∧ LinksW w' base g lb l.length X (adjT l l.length) (foT l l.length) (fun _ => 0) ∧ w.heap.size ≤ g ∧ w.heap.size ≤ lb ∧ w.heap.size ≤ base ∧ base ≤ w'.heap.size ∧ Below w.heap.size w w'
theorem foT_succ (l : List ArcD) (k : Nat) : ∀ i, updI (foT l k) k (nthA l k).cap i = foT l (k + 1) i := fun i => by
  by_cases e : i = k
  · subst e; rw [updI_same]; unfold foT; rw [if_pos (by omega)]
  · rw [updI_other e]; unfold foT
    by_cases h : i < k
    · rw [if_pos h, if_pos (by omega)]
    · rw [if_neg h, if_neg (by omega)]
theorem alloc3_below (w : World) (o1 o2 o3 : Obj) : Below w.heap.size w (((w.alloc o1).alloc o2).alloc o3) := (((Below.refl _ _).alloc (Nat.le_refl _) _).alloc (by simp) _).alloc (by simp; omega) _
theorem alloc3_size (w : World) (o1 o2 o3 : Obj) : (((w.alloc o1).alloc o2).alloc o3).heap.size = w.heap.size + 3 := by simp
theorem alloc3_0 (w : World) (cs : Array Value) (t : TypeId) (o2 o3 : Obj) : (((w.alloc (.cells cs t)).alloc o2).alloc o3).heap[w.heap.size]? = some (.cells cs t (0, 0)) := by
  rw [heap_alloc_if, if_neg (by simp; omega), heap_alloc_if, if_neg (by simp), heap_alloc_if, if_pos rfl]
theorem heap_alloc_keep {w : World} {k : Nat} {o : Obj} (h : w.heap[k]? = some o) (o' : Obj) : (w.alloc o').heap[k]? = some o := (Below.heap_alloc _ _ _ (lt_heap h)).trans h
theorem cell_new1 (w : World) (u : Value) (t : TypeId) : (w.alloc (.cells #[u] t)).cell? ⟨w.heap.size, 0, none⟩ = some u := cell_of (cs := #[u]) (t := t) (z := (0, 0)) (by rw [heap_alloc_if, if_pos rfl]) rfl
theorem cell_drew {w : World} {a : Addr} {v : Value} (h : w.cell? a = some v) : w.drew.cell? a = some v := h
/-- a round of newLinks on its way: the arc's own box, the rows -/
structure RoundW (w wx : World) (base g lb m b5 : Nat) (cs : Array Value) (X : Nat → Value) (F : Nat → List Int) (fo : Nat → Int) : Prop where
  bel : Below w.heap.size w wx
  box : wx.heap[b5]? = some (.cells cs 45 (0, 0))
  size : base ≤ wx.heap.size
  links : LinksW wx base g lb m X F fo (fun _ => 0)
  ne : ∀ v, v < 512 → ∀ c, (X v).ownBlock = some c → c ≠ b5
  hb : base ≤ b5
  hw : w.heap.size ≤ g
theorem RoundW.drew {w wx : World} {base g lb m b5 : Nat} {cs : Array Value} {X : Nat → Value} {F : Nat → List Int} {fo : Nat → Int} (h : RoundW w wx base g lb m b5 cs X F fo) : RoundW w wx.drew base g lb m b5 cs X F fo :=
  ⟨below_drewN h.bel 1, h.box, h.size, h.links.drew, h.ne, h.hb, h.hw⟩
theorem RoundW.push {w W W' w7 : World} {base g lb m b5 : Nat} {cs : Array Value} {X : Nat → Value} {F : Nat → List Int} {fo : Nat → Int} (h : RoundW w W base g lb m b5 cs X F fo) {a : Nat} (ha : a < 512) (hw : Below W.heap.size W W') {x : Value} {y : Int}
    (H : w7.ownsRow base 3 1 x ((F a).length + 1) ((F a).map i64v ++ [i64v y]) ∧ W'.grownBy w7 (X a).ownBlock ∧ (x.ownBlock = (X a).ownBlock ∨ x.ownBlock = some W'.heap.size)) :
    Hid (RoundW w (w7.setCell ⟨g, a, none⟩ x) base g lb m b5 cs (updV X a x) (updV F a (F a ++ [y])) fo) ∧ Hid (w7.heap[b5]? = some (.cells cs 45 (0, 0))) ∧ (∃ u, w7.cell? ⟨g, a, none⟩ = some u) ∧ w7.frozen? ⟨g, a, none⟩ = false := by
  obtain ⟨H1, H2, H3⟩ := H
  have hl := h.links.below hw
  have hgl := hl.adj.glt
  have hlt := hl.adj.lt
  have hb5 := lt_heap h.box
  have hrow := hl.adj.own a ha
  have hne : (X a).ownBlock ≠ some g := fun e => by have := (own_lt hrow g e).1; omega
  have e5 : w7.heap[b5]? = some (.cells cs 45 (0, 0)) := ((H2.block b5 (Nat.lt_of_lt_of_le hb5 hw.size) fun e => h.ne a ha b5 e.symm rfl).trans (hw.block b5 hb5)).trans h.box
  obtain ⟨ds, t, hd, hd2⟩ := hl.adj.box
  have eg : w7.heap[g]? = some (.cells ds t (0, 0)) := (H2.block g hgl fun e => hne e.symm).trans hd
  have hb := h.hb
  have hwg := h.hw
  refine ⟨Lib.hid ⟨?_, ?_, ?_, h.links.push ha hw H1 H2 H3, fun v hv c hc => ?_, h.hb, h.hw⟩, Lib.hid e5, ⟨_, cell_of eg (hd2 a ha)⟩, frz_at eg⟩
  · refine Below.setCell ?_ (by show w.heap.size ≤ g; omega) _
    refine (h.bel.trans (hw.mono h.bel.size)).trans ⟨H2.os, H2.tape, H2.output, H2.size, fun k hk => H2.block k (Nat.lt_of_lt_of_le hk (h.bel.trans (hw.mono h.bel.size)).size) fun e => ?_⟩
    have := (own_lt hrow k e.symm).1
    omega
  · rw [heap_set_if, if_neg (by omega)]; exact e5
  · have h1 := H2.size
    have h2 := hw.size
    have h3 := h.size
    simp [World.setCell]; omega
  · by_cases e : v = a
    · subst e
      rw [updV_same] at hc
      rcases H3 with q | q
      · exact h.ne v hv c (q ▸ hc)
      · rw [q] at hc; injection hc with hc
        have := hw.size
        omega
    · rw [updV_other e] at hc; exact h.ne v hv c hc
set_option maxHeartbeats 4000000 in
theorem newLinks_any (w : World) (M : Nat → Prop) (v : Value) (n : NetD) (h : IsNet w M v n) {V : Nat} (hn : NOk n V) : Calls Try.prog 26 #[v] w (NewLinks w n.arcs) := by
  have hlen := hn.len
  obtain ⟨va, rfl, h3⟩ := h
  have HA := Lib.hid h3
  have HN := Lib.hid hn
  obtain ⟨A, c, rfl, -⟩ := h3
  obtain ⟨mk, hmk1, hmks, hmk2⟩ : ∃ mk : World → World, (∀ w, (Instr.makeSlice 58 (.int .i64 n.arcs.length) (.int .i64 n.arcs.length)).run Try.prog w = .ok (.slice (some ⟨w.heap.size, 0, none⟩) n.arcs.length n.arcs.length) (mk w)) ∧ (∀ w, (mk w).heap.size = w.heap.size + 1) ∧ ∀ w, mk w = w.alloc (.cells (madeCells #[.int .i64 0, .int .i64 0] (n.arcs.length * 2)) 65) := ⟨_, fun w => make_pairs _ hlen w, fun w => by simp, fun _ => rfl⟩
  obtain ⟨zc, hz1, hz2, hz3⟩ : ∃ zc : Array Value, (∀ W, Sem.run Try.prog (zeroValue 60) W = .ok (.agg zc) W) ∧ zc.size = 513 ∧ zc = (List.replicate 513 (Value.slice none 0 0)).toArray := ⟨_, fun W => zero_links W, repl_size _ _, rfl⟩
  have HMK := Lib.hid hmk2
  have HLC := Lib.hid hz3
  clear hmk2 hz3 hn
  go_enter Try.func26, Try.ntmps26
  go_upto_region 2 with fail
  refine nameC fun W1 hW1 => ?_
  have hE := hW1.out
  rw [HMK.out, HLC.out] at hE
  have hL : LinksW W1 (w.heap.size + 3) (w.heap.size + 2) (w.heap.size + 1) n.arcs.length (fun _ => .slice none 0 0) (fun _ => []) (fun _ => 0) (fun _ => 0) := by rw [hE]; exact links_start w _ _
  have HB1 : Hid (Below w.heap.size w W1) := Lib.hid (by rw [hE]; exact alloc3_below _ _ _ _)
  have hs1 : W1.heap.size = w.heap.size + 3 := by rw [hE]; exact alloc3_size _ _ _ _
  have c1 : W1.cell? ⟨w.heap.size, 1, none⟩ = some (.slice A n.arcs.length c) := cell_of (g := w.heap.size) (cs := #[.int .i64 n.vs, .slice A n.arcs.length c]) (t := 24) (z := (0, 0)) (by rw [hE]; exact alloc3_0 _ _ _ _ _) rfl
  obtain ⟨g, hg⟩ : ∃ g, g = w.heap.size + 1 + 1 := ⟨_, rfl⟩
  obtain ⟨lb, hlb⟩ : ∃ lb, lb = w.heap.size + 1 := ⟨_, rfl⟩
  obtain ⟨base, hbase⟩ : ∃ base, base = w.heap.size + 3 := ⟨_, rfl⟩
  have HL1 : Hid (LinksW W1 base g lb n.arcs.length (fun _ => .slice none 0 0) (fun _ => []) (fun _ => 0) (fun _ => 0)) := Lib.hid (by rw [hg, hlb, hbase]; exact hL)
  rw [← hg, ← hlb]
  have hgN : w.heap.size < g := by omega
  have hlN : w.heap.size < lb := by omega
  have hbN : w.heap.size < base := by omega
  have hs1' : base ≤ W1.heap.size := by omega
  clear hW1 hE hL hg hlb hbase hmk1 hmks hz1 HMK HLC hs1
  go_wp2_with fail
  clear c1
  go_loopg [15] n.arcs.length (fun gk q15 wr => ∃ k : Nat, k ≤ n.arcs.length ∧ gk = n.arcs.length - k ∧ q15 = .int .i64 (k : Int) ∧ Hid (Below w.heap.size w wr) ∧ base ≤ wr.heap.size ∧ Hid (∃ X, LinksW wr base g lb n.arcs.length X (adjT n.arcs k) (foT n.arcs k) (fun _ => 0)))
  case atStart => exact ⟨0, Nat.zero_le _, rfl, rfl, HB1, hs1', Lib.hid ⟨_, HL1.out⟩⟩
  case round =>
    obtain ⟨k, hk, hgk, rfl, HB, hsz, HL⟩ := hrel
    clear HL1 HB1 hs1'
    by_cases hlt : k < n.arcs.length
    · have hlt' : (k : Int) < (n.arcs.length : Int) := by omega
      have h0 : (0 : Int) ≤ (k : Int) := by omega
      obtain ⟨ba, off, rfl, hba, e0, e1, e2⟩ := HA.out.at_ HB.out hlt
      obtain ⟨a, b, cp, harc, ha, hb0, hb, hab, hc⟩ := HN.out.arc k hlt
      have hV := HN.out.hi
      have HARC := Lib.hid harc
      rw [harc] at e0 e1 e2
      dsimp only at e0 e1 e2
      clear harc
      go_upto_region 5 with fail
      refine nameC fun W4 hW4 => ?_
      obtain ⟨b5, hb5⟩ : ∃ b5, b5 = wr.heap.size := ⟨_, rfl⟩
      have HX : Hid (W4.heap[b5]? = some (.cells #[.int .i64 (a : Int), .int .i64 (b : Int), .int .i64 (cp : Int)] 45 (0, 0))) := Lib.hid (by rw [hW4.out, hb5, heap_alloc_if, if_pos rfl])
      have hBr : Below wr.heap.size wr W4 := by rw [hW4.out]; exact (Below.refl _ _).alloc (Nat.le_refl _) _
      obtain ⟨X, hX⟩ := HL.out
      have hR : RoundW w W4 base g lb n.arcs.length b5 #[.int .i64 (a : Int), .int .i64 (b : Int), .int .i64 (cp : Int)] X (adjT n.arcs k) (foT n.arcs k) :=
        ⟨HB.out.trans (hBr.mono HB.out.size), HX.out, Nat.le_trans hsz hBr.size, hX.below hBr, fun v hv c hc => by have := (own_lt (hX.adj.own v hv) c hc).2; omega, by omega, by omega⟩
      have HR4 := Lib.hid hR
      clear hW4 hX HX hR hBr
      rw [← hb5]
      clear hb5
      have ha0 : (0 : Int) ≤ (a : Int) := by omega
      have ha512 : (a : Int) < 512 := by omega
      have hB0 : (0 : Int) ≤ (b : Int) := by omega
      have hB512 : (b : Int) < 512 := by omega
      have hs4 : b5 < W4.heap.size := lt_heap HR4.out.box
      have hg4 : g < W4.heap.size := HR4.out.links.adj.glt
      have hz4 : base ≤ W4.heap.size := HR4.out.size
      have hown := HR4.out.links.adj.own a (by omega)
      have hc4 := HR4.out.links.adj.cell (v := a) (by omega)
      have hf4 := HR4.out.links.adj.frz a
      have x4 : W4.cell? ⟨b5, 0, none⟩ = some (.int .i64 (a : Int)) := cell_of HR4.out.box rfl
      obtain ⟨A4, d4, hxa⟩ := own_sl hown
      rw [hxa] at hown hc4
      have HO4 := Lib.hid hown
      have HX4 := Lib.hid hxa
      have hl4 : (adjT n.arcs k a).length < 100000 := by
        have := adjT_len n.arcs k a
        omega
      clear hown hxa
      go_cut [4, 5] (fun s4 s5 wx => s4 = .int .i64 (k : Int) ∧ s5 = .pointer (some ⟨b5, 0, none⟩) ∧ Hid (∃ X, RoundW w wx base g lb n.arcs.length b5 #[.int .i64 (a : Int), .int .i64 (b : Int), .int .i64 (cp : Int)] X (updV (adjT n.arcs k) a (adjT n.arcs k a ++ [(k : Int)])) (foT n.arcs k)))
      case first =>
        go_region_law (first | (refine step_int base (adjT n.arcs k a) (k : Int) (v := .slice A4 (adjT n.arcs k a).length d4) (b := W4.heap.size) (c := 1) ?_ ?_ hl4 ?_ rfl (.tmp 29) (.tmp 31) rfl rfl rfl ?_; (focus ((repeat (first | with_reducible exact HO4.out | (with_reducible refine World.ownsRow.drew ?_) | (with_reducible refine World.ownsRow.alloc ?_ _))); done)); (focus (exact cell_drew (cell_new1 _ _ _))); (focus (first | exact hz4 | (simp; omega))); intro A7 d7 w7 H7; obtain ⟨HT7, HX7, ⟨u7, hc7⟩, hf7⟩ := RoundW.push HR4.out (a := a) (by omega) (Below.drew ((Below.refl _ _).alloc (Nat.le_refl _) _)) (by rw [HX4.out]; exact H7.out); have y0 : w7.cell? ⟨b5, 0, none⟩ = some (.int .i64 (a : Int)) := cell_of HX7.out rfl; clear H7))
        all_goals
          go_wp2_with fail
          go_meet
          case rel =>
            exact ⟨rfl, rfl, Lib.hid ⟨_, by repeat (first | with_reducible exact HT7.out | (with_reducible refine RoundW.drew ?_))⟩⟩
      case rest =>
        obtain ⟨rfl, rfl, H5⟩ := hcut
        obtain ⟨X5, hX5⟩ := H5.out
        have HR5 := Lib.hid hX5
        clear hX5 hs4 hg4 hz4 hc4 hf4 x4 HO4 HX4 hl4 HR4 H5
        have hwk : IntKind.i64.wrap (-1 - (k : Int)) = -1 - (k : Int) := IntWalk.i64_in _ (by omega)
        go_upto_region 6 with fail
        have hs6 : b5 < wc.heap.size := lt_heap HR5.out.box
        have hg6 : g < wc.heap.size := HR5.out.links.adj.glt
        have hz6 : base ≤ wc.heap.size := HR5.out.size
        have hown := HR5.out.links.adj.own b (by omega)
        have hc6 := HR5.out.links.adj.cell (v := b) (by omega)
        have hf6 := HR5.out.links.adj.frz b
        have x6 : wc.cell? ⟨b5, 1, none⟩ = some (.int .i64 (b : Int)) := cell_of HR5.out.box rfl
        obtain ⟨A6, d6, hxa⟩ := own_sl hown
        rw [hxa] at hown hc6
        have HO6 := Lib.hid hown
        have HX6 := Lib.hid hxa
        have hl6 : ((updV (adjT n.arcs k) a (adjT n.arcs k a ++ [(k : Int)])) b).length < 100000 := by
          have := adjT_len n.arcs k b
          rw [updV_other (fun e => hab e.symm)]
          omega
        clear hown hxa
        go_cut [4, 5] (fun s4 s5 wx => s4 = .int .i64 (k : Int) ∧ s5 = .pointer (some ⟨b5, 0, none⟩) ∧ Hid (∃ X, RoundW w wx base g lb n.arcs.length b5 #[.int .i64 (a : Int), .int .i64 (b : Int), .int .i64 (cp : Int)] X (updV (updV (adjT n.arcs k) a (adjT n.arcs k a ++ [(k : Int)])) b ((updV (adjT n.arcs k) a (adjT n.arcs k a ++ [(k : Int)])) b ++ [-1 - (k : Int)])) (foT n.arcs k)))
        case first =>
          go_region_law (first | (refine step_int base ((updV (adjT n.arcs k) a (adjT n.arcs k a ++ [(k : Int)])) b) (-1 - (k : Int)) (v := .slice A6 ((updV (adjT n.arcs k) a (adjT n.arcs k a ++ [(k : Int)])) b).length d6) (b := wc.heap.size) (c := 1) ?_ ?_ hl6 ?_ rfl (.tmp 45) (.tmp 48) rfl rfl rfl ?_; (focus ((repeat (first | with_reducible exact HO6.out | (with_reducible refine World.ownsRow.drew ?_) | (with_reducible refine World.ownsRow.alloc ?_ _))); done)); (focus (exact cell_drew (cell_new1 _ _ _))); (focus (first | exact hz6 | (simp; omega))); intro A7 d7 w7 H7; obtain ⟨HT7, HX7, ⟨u7, hc7⟩, hf7⟩ := RoundW.push HR5.out (a := b) (by omega) (Below.drew ((Below.refl _ _).alloc (Nat.le_refl _) _)) (by rw [HX6.out]; exact H7.out); have y0 : w7.cell? ⟨b5, 1, none⟩ = some (.int .i64 (b : Int)) := cell_of HX7.out rfl; clear H7))
          all_goals
            go_wp2_with fail
            go_meet
            case rel =>
              exact ⟨rfl, rfl, Lib.hid ⟨_, by repeat (first | with_reducible exact HT7.out | (with_reducible refine RoundW.drew ?_))⟩⟩
        case rest =>
          obtain ⟨rfl, rfl, H6⟩ := hcut
          obtain ⟨X6, hX6⟩ := H6.out
          have HR6 := Lib.hid hX6
          clear hX6 hs6 hg6 hz6 hc6 hf6 x6 HO6 HX6 hl6 HR5 H6
          have x7 : wc.cell? ⟨b5, 2, none⟩ = some (.int .i64 (cp : Int)) := cell_of HR6.out.box rfl
          have l7 := HR6.out.links.left.at_
          have p7 := HR6.out.links.left.fo k (by omega)
          have q7 := HR6.out.links.left.bk k (by omega)
          have f7 : wc.frozen? ⟨lb, k * 2, none⟩ = false := by obtain ⟨cs, hcs⟩ := HR6.out.links.lbox; exact frz_at hcs
          have f8 : wc.frozen? ⟨lb, k * 2 + 1, none⟩ = false := by obtain ⟨cs, hcs⟩ := HR6.out.links.lbox; exact frz_at hcs
          have hk7 : (k : Int) < (n.arcs.length : Int) := by omega
          go_upto_region 7 with fail
          go_region
          have hLE := (HR6.out.links.pair (i := k) (by omega) (cp : Int) 0).drew
          have hE1 : updI (foT n.arcs k) k (cp : Int) = foT n.arcs (k + 1) := by
            funext i
            have := foT_succ n.arcs k i
            rw [HARC.out] at this
            exact this
          have hE2 : updI (fun _ => 0) k 0 = fun _ => (0 : Int) := by
            funext i
            unfold updI
            split <;> rfl
          have hE3 : updV (updV (adjT n.arcs k) a (adjT n.arcs k a ++ [(k : Int)])) b ((updV (adjT n.arcs k) a (adjT n.arcs k a ++ [(k : Int)])) b ++ [-1 - (k : Int)]) = adjT n.arcs (k + 1) := by
            funext v
            show _ = updV (updV (adjT n.arcs k) (nthA n.arcs k).src.toNat _) (nthA n.arcs k).dst.toNat _ v
            rw [HARC.out]
            rfl
          rw [hE1, hE2, hE3] at hLE
          have HLE := Lib.hid hLE
          have HBE : Hid (Below w.heap.size w (((wc.setCell ⟨lb, k * 2, none⟩ (.int .i64 (cp : Int))).setCell ⟨lb, k * 2 + 1, none⟩ (.int .i64 0)).drew)) := Lib.hid (below_drewN ((HR6.out.bel.setCell (by show w.heap.size ≤ lb; omega) _).setCell (by show w.heap.size ≤ lb; omega) _) 1)
          have hzE : base ≤ (((wc.setCell ⟨lb, k * 2, none⟩ (.int .i64 (cp : Int))).setCell ⟨lb, k * 2 + 1, none⟩ (.int .i64 0)).drew).heap.size := by
            have := HR6.out.size
            show base ≤ ((wc.setCell _ _).setCell _ _).heap.size
            simp [World.setCell]; exact this
          unfold i64v at HLE
          generalize ((wc.setCell ⟨lb, k * 2, none⟩ (.int .i64 (cp : Int))).setCell ⟨lb, k * 2 + 1, none⟩ (.int .i64 0)).drew = WE at HLE HBE hzE ⊢
          clear hLE hE1 hE2 hE3 x7 l7 p7 q7 f7 f8 HR6
          go_wp2_with fail
          go_roundg (n.arcs.length - (k + 1))
          case measure => omega
          case rel => exact ⟨k + 1, by omega, rfl, by go_num, HBE, hzE, Lib.hid ⟨_, HLE.out⟩⟩
    · have hnl : ¬ (k : Int) < (n.arcs.length : Int) := by omega
      go_wp2_with fail
      go_ret
      obtain rfl : k = n.arcs.length := by omega
      obtain ⟨X, hX⟩ := HL.out
      exact ⟨_, _, _, X, rfl, hX, by omega, by omega, by omega, hsz, HB.out⟩
end Go.Proofs.Ytikddknhcfhnbaa
