import Derived.Test.YthlnfjbedehjdaaZg
import Derived.Deep.RegionHeld3
import Derived.Deep.DeepCutAuto
import Derived.Test.YthlnfjbedehjdaaZd
import Derived.BigQuiet
/- always of the reference: the recursion. -/
namespace Go.Proofs.Ythlnfjbedehjdaa
open Go.RowKit Go.Deep Go.Shelf

/-- the array of one int -/
def ArrIn (w : World) (b : Nat) (x : Value) : Prop := w.heap[b]? = some (.cells #[x] 3 (0, 0))
theorem ArrIn.cells {w : World} {b : Nat} {x : Value} (h : ArrIn w b x) : ∀ j u, [x][j]? = some u → w.cell? ((⟨b, 0, none⟩ : Addr).add j) = some u := by
  intro j u hj
  rw [addr_add, Nat.zero_add]
  refine cell_of h ?_
  have : j = 0 := by have := (List.getElem?_eq_some_iff.1 hj).1; simp at this; omega
  subst this
  simpa using hj
theorem ArrIn.new {w : World} {b : Nat} {x : Value} (h : b = w.heap.size) : ArrIn (w.alloc (.cells #[x] 3)) b x := by
  show (w.alloc (.cells #[x] 3)).heap[b]? = _
  rw [heap_alloc_if, if_pos h]
theorem ArrIn.alloc {w : World} {b : Nat} {x : Value} (h : ArrIn w b x) (o : Obj) : ArrIn (w.alloc o) b x := (Below.heap_alloc _ _ _ (lt_heap h)).trans h
theorem ArrIn.drew {w : World} {b : Nat} {x : Value} (h : ArrIn w b x) : ArrIn w.drew b x := h
def IntE (W : World) (b : Nat) : Prop := W.heap[b]? = some (.cells #[] 3 (0, 0))
theorem IntE.new {W : World} {b : Nat} (h : b = W.heap.size) : IntE (W.alloc (.cells #[] 3)) b := by unfold IntE; rw [heap_alloc_if, if_pos h]
theorem IntE.alloc {W : World} {b : Nat} (h : IntE W b) (o : Obj) : IntE (W.alloc o) b := (Below.heap_alloc _ _ _ (lt_heap h)).trans h
theorem IntE.drew {W : World} {b : Nat} (h : IntE W b) : IntE W.drew b := h
section
variable {ops : Array Oper} {o : Oper} {a : Act} {W : World} {K : Act → World → Prop} {Q : Exit → Act → World → Prop} {E : Prop}
theorem q9A {W0 : World} {M : Nat → Prop} {b0 : Nat} {vb : Value} {bs : List Int} (h0 : IntE W b0) (hbe : Below W0.heap.size W0 W) (hb : W0.heap.size ≤ b0) (hT : IsInts W0 M vb bs) (hlen : bs.length ≤ 1000) (hgd : o.guard = none) (s x : Operand)
    (ho : o.op = .call { callee := .builtin .append, args := #[s, x], argTypes := #[22, 22] }) (hs : a.eval s = .slice (some ⟨b0, 0, none⟩) 0 0) (hx : a.eval x = vb)
    (hK : ∀ A c w', Hid (w'.ownsRow W0.heap.size 3 1 (.slice A bs.length c) bs.length (bs.map i64v) ∧ Below W0.heap.size W0 w') → (∀ b y, ArrIn W b y → ArrIn w' b y) → K (a.put o.dst (.slice A bs.length c)) w') :
    if Region.wanted o (yielded ops a.tmps) = true then Oper.wp Try.prog o a W K Q else E := by
  obtain ⟨ii, hii, hz0, hz1, hz2⟩ := info_parts Try.infoI64
  obtain ⟨A, c, rfl, hl1, hl2, hcells⟩ := IsSl.below hT hbe
  refine step_append_cells W hgd s x 22 ho W0.heap.size 3 ii (.int .i64 0) 1 8 Try.underlying22 hii hz0 hz1 hz2 rfl (by decide) _ 0 [] hs (own_empty h0 hb) A bs.length c (bs.map i64v) hx (by simp) (fun hn => ?_) (by intro u hu; rw [List.mem_map] at hu; obtain ⟨y, -, rfl⟩ := hu; rfl) (by unfold maxLen; omega) (by omega) hbe.size ?_
  · obtain ⟨b, off, rfl, -, hc⟩ := hcells hn
    refine ⟨_, rfl, fun j u hj => ?_⟩
    have hjl : j < (bs.map i64v).length := (List.getElem?_eq_some_iff.1 hj).1
    rw [List.length_map] at hjl
    rw [addr_add]
    have := hc j 0 hjl (by omega)
    rw [Nat.mul_one, Nat.add_zero] at this
    rw [this]
    rw [List.getElem?_map, List.getElem?_eq_getElem hjl] at hj
    show some (Value.int .i64 (bs.getD j 0)) = some u
    rw [List.getD_eq_getElem?_getD, List.getElem?_eq_getElem hjl]
    exact hj
  · intro v' w' k1 k2 k3
    rw [List.nil_append, Nat.zero_add] at k1
    obtain ⟨A', c', rfl⟩ := own_sl k1
    refine hK A' c' w' ⟨k1, hbe.trans ((Below.refl _ W).grown k2 hbe.size (fun q e => by
      have : q = b0 := by simpa [Value.ownBlock] using e.symm
      omega))⟩ fun b y hy => ?_
    refine (k2.block b (lt_heap hy) fun e => ?_).trans hy
    have e' : b = b0 := by simpa [Value.ownBlock] using e
    unfold ArrIn at hy
    unfold IntE at h0
    rw [e', h0] at hy
    cases hy
theorem q9B {W0 : World} {b : Nat} {v : Value} {bs : List Int} {k : Int} (hown : W.ownsRow W0.heap.size 3 1 v bs.length (bs.map i64v)) (ha : ArrIn W b (i64v k)) (hbe : Below W0.heap.size W0 W) (hlen : bs.length ≤ 1000) (hgd : o.guard = none) (s x : Operand)
    (ho : o.op = .call { callee := .builtin .append, args := #[s, x], argTypes := #[22, 22] }) (hs : a.eval s = v) (hx : a.eval x = .slice (some ⟨b, 0, none⟩) 1 1)
    (hK : ∀ A c w', Hid (IsInts w' (fun b => W0.heap.size ≤ b) (.slice A (bs.length + 1) c) (bs ++ [k]) ∧ Below W0.heap.size W0 w') → K (a.put o.dst (.slice A (bs.length + 1) c)) w') :
    if Region.wanted o (yielded ops a.tmps) = true then Oper.wp Try.prog o a W K Q else E := by
  obtain ⟨ii, hii, hz0, hz1, hz2⟩ := info_parts Try.infoI64
  refine step_append_cells W hgd s x 22 ho W0.heap.size 3 ii (.int .i64 0) 1 8 Try.underlying22 hii hz0 hz1 hz2 rfl (by decide) v bs.length (bs.map i64v) hs hown (some ⟨b, 0, none⟩) 1 1 [i64v k] hx rfl (fun _ => ⟨_, rfl, ArrIn.cells ha⟩) (one_i64 _) (by unfold maxLen; omega) (by omega) hbe.size ?_
  intro v' w' k1 k2 k3
  have e1 : bs.map i64v ++ [i64v k] = (bs ++ [k]).map i64v := by simp
  rw [e1] at k1
  obtain ⟨A', c', rfl⟩ := own_sl k1
  have e2 : bs.length + 1 = (bs ++ [k]).length := by simp
  refine hK A' c' w' ⟨?_, hbe.trans ((Below.refl _ W).grown k2 hbe.size (own_base hown))⟩
  rw [e2] at k1 ⊢
  exact IsInts.ofOwn k1
end
/-- the first k outcomes of the next game end well -/
def alwK (q : RaceD) (certain : Bool) (n : Nat) (o : List Int) (k : Nat) : Prop := ∀ j, j < k → alwR q certain n (o ++ [(j : Int) + 1]) = true
theorem alwK_zero {q : RaceD} {certain : Bool} {n : Nat} {o : List Int} : alwK q certain n o 0 := fun _ h => absurd h (by omega)
theorem alwK_succ {q : RaceD} {certain : Bool} {n : Nat} {o : List Int} {k : Nat} (h : alwK q certain n o k) (hk : alwR q certain n (o ++ [(k : Int) + 1]) = true) : alwK q certain n o (k + 1) := fun j hj => by
  rcases Nat.lt_or_ge j k with h1 | h1
  · exact h j h1
  · rw [show j = k by omega]; exact hk
theorem alwK_all {q : RaceD} {certain : Bool} {n : Nat} {o : List Int} (h : alwK q certain n o 3) : alwR q certain (n + 1) o = true := by
  have h1 := h 0 (by omega)
  have h2 := h 1 (by omega)
  have h3 := h 2 (by omega)
  show (alwR q certain n (o ++ [1]) && alwR q certain n (o ++ [2]) && alwR q certain n (o ++ [3])) = true
  have e1 : ((0 : Nat) : Int) + 1 = 1 := rfl
  have e2 : ((1 : Nat) : Int) + 1 = 2 := rfl
  have e3 : ((2 : Nat) : Int) + 1 = 3 := rfl
  rw [e1] at h1; rw [e2] at h2; rw [e3] at h3
  rw [h1, h2, h3]; rfl
theorem alwR_not {q : RaceD} {certain : Bool} {n : Nat} {o : List Int} {k : Nat} (hk : k < 3) (h : alwR q certain n (o ++ [(k : Int) + 1]) = false) : alwR q certain (n + 1) o = false := by
  show (alwR q certain n (o ++ [1]) && alwR q certain n (o ++ [2]) && alwR q certain n (o ++ [3])) = false
  match k, hk with
  | 0, _ => have h : alwR q certain n (o ++ [1]) = false := h; rw [h]; rfl
  | 1, _ => have h : alwR q certain n (o ++ [2]) = false := h; rw [h]; simp
  | 2, _ => have h : alwR q certain n (o ++ [3]) = false := h; rw [h]; simp
set_option maxRecDepth 20000 in
set_option maxHeartbeats 8000000 in
theorem ralwaysR_any (q : RaceD) (certain : Bool) (hv : ValidR q) : ∀ (n : Nat) (w : World) (M M' : Nat → Prop) (v u : Value) (outs : List Int), IsRace w M v q → IsInts w M' u outs → outs.length + n = q.opn.length → (∀ x ∈ outs, 1 ≤ x ∧ x ≤ 3) →
    Calls Try.prog 67 #[v, .bool certain, u] w fun e w' => e = .returned (.bool (alwR q certain n outs)) ∧ Below w.heap.size w w' := by
  intro n
  induction n with
  | zero =>
    intro w M M' v u outs h h' hl hx
    refine ralways0_any w M M' v u q certain outs h h' hv ?_
    unfold complB
    rw [decide_eq_true (show outs.length = q.opn.length by omega), Bool.true_and, List.all_eq_true]
    intro x hm
    have := hx x hm
    unfold outB
    rw [decide_eq_true this.1, decide_eq_true this.2]; rfl
  | succ n ih =>
    intro w M M' v u outs h h' hl hx
    have HIH := Lib.hid ih
    have HR := Lib.hid h
    have HU := Lib.hid h'
    obtain ⟨cA, cc, pA, pc, oA, oc, rfl, -⟩ := h.parts
    obtain ⟨uA, uc, rfl, -⟩ := id h'
    obtain ⟨L, hL⟩ : ∃ L, L = outs.length := ⟨_, rfl⟩
    have ho9 := hv.size.opn
    have hlt : (L : Int) < (q.opn.length : Int) := by omega
    have hL0 : (0 : Int) ≤ (L : Int) := by omega
    have hl1000 : outs.length ≤ 1000 := by omega
    have HL := Lib.hid (And.intro hL hl)
    have HXS := Lib.hid hx
    rw [← hL]
    rw [← hL] at HU
    clear ih h h' hL hl hx hv ho9
    obtain ⟨z, hz⟩ : ∃ z, z = alwR q certain (n + 1) outs := ⟨_, rfl⟩
    have HZ := Lib.hid hz
    rw [← hz]
    clear hz
    go_enter Try.func67, Try.ntmps67
    go_upto_region 1 with fail
    refine nameC fun W1 hW1 => ?_
    have hb1 : Below w.heap.size w W1 := by rw [hW1.out]; exact (Below.refl _ _).alloc (Nat.le_refl _) _
    have k0 : W1.heap[w.heap.size]? = some (.cells #[.int .i64 q.win, .int .i64 q.draw, .slice cA q.clubs.length cc, .slice pA q.points.length pc, .slice oA q.opn.length oc, .int .i64 q.club, .int .i64 q.place] 25 (0, 0)) := by rw [hW1.out]; exact heap_alloc_new _ _
    have hlw1 : w.heap.size < W1.heap.size := lt_heap k0
    have r4 := cell_of (j := 4) k0 rfl
    have HB1 := Lib.hid hb1
    have HK := Lib.hid k0
    clear hW1 hb1 k0
    go_wp2_with fail
    go_loopw [7] (fun s7 wr => ∃ k : Nat, k ≤ 3 ∧ s7 = .int .i64 ((k : Int) + 1) ∧ Hid (alwK q certain n outs k) ∧ Hid (Below W1.heap.size W1 wr)) (fun s7 _ => 4 - (intOf s7).toNat)
    case atStart => exact ⟨0, by omega, rfl, Lib.hid alwK_zero, Lib.hid (by repeat (first | with_reducible exact Below.refl _ _ | (with_reducible refine Below.drew ?_)))⟩
    case round =>
      obtain ⟨k, hk, rfl, HT, HB⟩ := hrel
      by_cases hk3 : k < 3
      · have t1 : decide ((k : Int) + 1 ≤ 3) = true := by rw [decide_eq_true_eq]; omega
        have t2 : (k : Int) + 1 ≤ 3 := by omega
        have k0 := (HB.out.block _ (lt_heap HK.out)).trans HK.out
        have hlw : w.heap.size < wr.heap.size := lt_heap k0
        have x0 := cell_of (j := 0) k0 rfl
        have x1 := cell_of (j := 1) k0 rfl
        have x2 := cell_of (j := 2) k0 rfl
        have x3 := cell_of (j := 3) k0 rfl
        have x4 := cell_of (j := 4) k0 rfl
        have x5 := cell_of (j := 5) k0 rfl
        have x6 := cell_of (j := 6) k0 rfl
        clear k0 r4
        obtain ⟨y, hy⟩ : ∃ y, y = alwR q certain n (outs ++ [(k : Int) + 1]) := ⟨_, rfl⟩
        have HY := Lib.hid hy
        have HBW := Lib.hid (HB1.out.trans (HB.out.mono HB1.out.size))
        have HTC := Lib.hid (IsSl.below HU.out HBW.out)
        have CI := Lib.hid (show ∀ (W : World) (A' : Option Addr) (c' : Nat), Below wr.heap.size wr W → IsInts W (fun b => wr.heap.size ≤ b) (.slice A' (outs.length + 1) c') (outs ++ [(k : Int) + 1]) → Calls Try.prog 67 #[.agg #[.int .i64 q.win, .int .i64 q.draw, .slice cA q.clubs.length cc, .slice pA q.points.length pc, .slice oA q.opn.length oc, .int .i64 q.club, .int .i64 q.place], .bool certain, .slice A' (outs.length + 1) c'] W fun e w' => e = .returned (.bool y) ∧ Below W.heap.size W w' from fun W A' c' hb hi => by
          have x := HIH.out W M _ _ _ (outs ++ [(k : Int) + 1]) (HR.out.below (HBW.out.trans (hb.mono HBW.out.size))) hi (by rw [List.length_append, List.length_singleton]; have := HL.out; omega) (fun x hm => by
            rcases List.mem_append.1 hm with hm | hm
            · exact HXS.out x hm
            · rw [List.mem_singleton] at hm; omega)
          rw [← hy] at x
          exact x)
        clear hy
        go_upto_region 5 with fail
        go_cut [29] (fun c wx => c = .bool (!y) ∧ Hid (Below W1.heap.size W1 wx))
        case first =>
          go_region_held3 (fun w' => w'.cell? ⟨w.heap.size, 0, none⟩ = some (.int .i64 q.win) ∧ w'.cell? ⟨w.heap.size, 1, none⟩ = some (.int .i64 q.draw) ∧ w'.cell? ⟨w.heap.size, 2, none⟩ = some (.slice cA q.clubs.length cc) ∧ w'.cell? ⟨w.heap.size, 3, none⟩ = some (.slice pA q.points.length pc) ∧ w'.cell? ⟨w.heap.size, 4, none⟩ = some (.slice oA q.opn.length oc) ∧ w'.cell? ⟨w.heap.size, 5, none⟩ = some (.int .i64 q.club) ∧ w'.cell? ⟨w.heap.size, 6, none⟩ = some (.int .i64 q.place)) (first | with_reducible exact ⟨x0, x1, x2, x3, x4, x5, x6⟩ | with_reducible exact ⟨a0, a1, a2, a3, a4, a5, a6⟩ | with_reducible exact ⟨b0, b1, b2, b3, b4, b5, b6⟩ | with_reducible exact ⟨yc0, yc1, yc2, yc3, yc4, yc5, yc6⟩ | go_keep) (first | (refine q9A (W0 := wr) (M := M') (b0 := wr.heap.size) (vb := .slice uA L uc) (bs := outs) ?_ ?_ (Nat.le_refl _) HTC.out hl1000 rfl (.tmp 22) (.tmp 23) rfl rfl rfl ?_; (focus ((repeat (first | (with_reducible refine IntE.drew ?_) | (exact IntE.new (by simp)) | (with_reducible refine IntE.alloc ?_ _))); done)); (focus ((repeat (first | with_reducible exact Below.refl wr.heap.size wr | (with_reducible refine Below.drew ?_) | (with_reducible refine Below.alloc ?_ (by first | omega | (simp; done) | (simp; omega)) _))); done)); intro AA cA9 wA HA KA; have a0 := (HA.out.2.cell (p := ⟨w.heap.size, 0, none⟩) hlw).trans x0; have a1 := (HA.out.2.cell (p := ⟨w.heap.size, 1, none⟩) hlw).trans x1; have a2 := (HA.out.2.cell (p := ⟨w.heap.size, 2, none⟩) hlw).trans x2; have a3 := (HA.out.2.cell (p := ⟨w.heap.size, 3, none⟩) hlw).trans x3; have a4 := (HA.out.2.cell (p := ⟨w.heap.size, 4, none⟩) hlw).trans x4; have a5 := (HA.out.2.cell (p := ⟨w.heap.size, 5, none⟩) hlw).trans x5; have a6 := (HA.out.2.cell (p := ⟨w.heap.size, 6, none⟩) hlw).trans x6; have szA := HA.out.2.size) | (refine q9A (W0 := wr) (M := M') (b0 := wr.heap.size + 1) (vb := .slice uA L uc) (bs := outs) ?_ ?_ (Nat.le_succ _) HTC.out hl1000 rfl (.tmp 22) (.tmp 23) rfl rfl rfl ?_; (focus ((repeat (first | (with_reducible refine IntE.drew ?_) | (exact IntE.new (by simp)) | (with_reducible refine IntE.alloc ?_ _))); done)); (focus ((repeat (first | with_reducible exact Below.refl wr.heap.size wr | (with_reducible refine Below.drew ?_) | (with_reducible refine Below.alloc ?_ (by first | omega | (simp; done) | (simp; omega)) _))); done)); intro AA cA9 wA HA KA; have a0 := (HA.out.2.cell (p := ⟨w.heap.size, 0, none⟩) hlw).trans x0; have a1 := (HA.out.2.cell (p := ⟨w.heap.size, 1, none⟩) hlw).trans x1; have a2 := (HA.out.2.cell (p := ⟨w.heap.size, 2, none⟩) hlw).trans x2; have a3 := (HA.out.2.cell (p := ⟨w.heap.size, 3, none⟩) hlw).trans x3; have a4 := (HA.out.2.cell (p := ⟨w.heap.size, 4, none⟩) hlw).trans x4; have a5 := (HA.out.2.cell (p := ⟨w.heap.size, 5, none⟩) hlw).trans x5; have a6 := (HA.out.2.cell (p := ⟨w.heap.size, 6, none⟩) hlw).trans x6; have szA := HA.out.2.size) | (refine q9B (W0 := wr) (b := wr.heap.size) (v := .slice AA outs.length cA9) (bs := outs) (k := (k : Int) + 1) ?_ ?_ ?_ hl1000 rfl (.tmp 24) (.tmp 26) rfl rfl rfl ?_; (focus ((repeat (first | with_reducible exact HA.out.1 | (with_reducible refine World.ownsRow.drew ?_) | (with_reducible refine World.ownsRow.alloc ?_ _))); done)); (focus ((repeat (first | (with_reducible refine ArrIn.drew ?_) | (exact ArrIn.new (by simp)) | (with_reducible refine ArrIn.alloc ?_ _) | (refine KA _ _ ?_))); done)); (focus ((repeat (first | with_reducible exact HA.out.2 | (with_reducible refine Below.drew ?_) | (with_reducible refine Below.alloc ?_ (by first | omega | (simp; done) | (simp; omega)) _))); done)); intro AB cB wB HBr; have b0 := (HBr.out.2.cell (p := ⟨w.heap.size, 0, none⟩) hlw).trans x0; have b1 := (HBr.out.2.cell (p := ⟨w.heap.size, 1, none⟩) hlw).trans x1; have b2 := (HBr.out.2.cell (p := ⟨w.heap.size, 2, none⟩) hlw).trans x2; have b3 := (HBr.out.2.cell (p := ⟨w.heap.size, 3, none⟩) hlw).trans x3; have b4 := (HBr.out.2.cell (p := ⟨w.heap.size, 4, none⟩) hlw).trans x4; have b5 := (HBr.out.2.cell (p := ⟨w.heap.size, 5, none⟩) hlw).trans x5; have b6 := (HBr.out.2.cell (p := ⟨w.heap.size, 6, none⟩) hlw).trans x6; have szB := HBr.out.2.size) | (refine q9B (W0 := wr) (b := wr.heap.size + 1) (v := .slice AA outs.length cA9) (bs := outs) (k := (k : Int) + 1) ?_ ?_ ?_ hl1000 rfl (.tmp 24) (.tmp 26) rfl rfl rfl ?_; (focus ((repeat (first | with_reducible exact HA.out.1 | (with_reducible refine World.ownsRow.drew ?_) | (with_reducible refine World.ownsRow.alloc ?_ _))); done)); (focus ((repeat (first | (with_reducible refine ArrIn.drew ?_) | (exact ArrIn.new (by simp)) | (with_reducible refine ArrIn.alloc ?_ _) | (refine KA _ _ ?_))); done)); (focus ((repeat (first | with_reducible exact HA.out.2 | (with_reducible refine Below.drew ?_) | (with_reducible refine Below.alloc ?_ (by first | omega | (simp; done) | (simp; omega)) _))); done)); intro AB cB wB HBr; have b0 := (HBr.out.2.cell (p := ⟨w.heap.size, 0, none⟩) hlw).trans x0; have b1 := (HBr.out.2.cell (p := ⟨w.heap.size, 1, none⟩) hlw).trans x1; have b2 := (HBr.out.2.cell (p := ⟨w.heap.size, 2, none⟩) hlw).trans x2; have b3 := (HBr.out.2.cell (p := ⟨w.heap.size, 3, none⟩) hlw).trans x3; have b4 := (HBr.out.2.cell (p := ⟨w.heap.size, 4, none⟩) hlw).trans x4; have b5 := (HBr.out.2.cell (p := ⟨w.heap.size, 5, none⟩) hlw).trans x5; have b6 := (HBr.out.2.cell (p := ⟨w.heap.size, 6, none⟩) hlw).trans x6; have szB := HBr.out.2.size) | (refine q9B (W0 := wr) (b := wA.heap.size) (v := .slice AA outs.length cA9) (bs := outs) (k := (k : Int) + 1) ?_ ?_ ?_ hl1000 rfl (.tmp 24) (.tmp 26) rfl rfl rfl ?_; (focus ((repeat (first | with_reducible exact HA.out.1 | (with_reducible refine World.ownsRow.drew ?_) | (with_reducible refine World.ownsRow.alloc ?_ _))); done)); (focus ((repeat (first | (with_reducible refine ArrIn.drew ?_) | (exact ArrIn.new (by simp)) | (with_reducible refine ArrIn.alloc ?_ _) | (refine KA _ _ ?_))); done)); (focus ((repeat (first | with_reducible exact HA.out.2 | (with_reducible refine Below.drew ?_) | (with_reducible refine Below.alloc ?_ (by first | omega | (simp; done) | (simp; omega)) _))); done)); intro AB cB wB HBr; have b0 := (HBr.out.2.cell (p := ⟨w.heap.size, 0, none⟩) hlw).trans x0; have b1 := (HBr.out.2.cell (p := ⟨w.heap.size, 1, none⟩) hlw).trans x1; have b2 := (HBr.out.2.cell (p := ⟨w.heap.size, 2, none⟩) hlw).trans x2; have b3 := (HBr.out.2.cell (p := ⟨w.heap.size, 3, none⟩) hlw).trans x3; have b4 := (HBr.out.2.cell (p := ⟨w.heap.size, 4, none⟩) hlw).trans x4; have b5 := (HBr.out.2.cell (p := ⟨w.heap.size, 5, none⟩) hlw).trans x5; have b6 := (HBr.out.2.cell (p := ⟨w.heap.size, 6, none⟩) hlw).trans x6; have szB := HBr.out.2.size) | (go_at_call 67; refine (CI.out wB AB cB HBr.out.2 HBr.out.1).mono ?_; rintro e wC ⟨rfl, hBC⟩; have HBC := Lib.hid (HBr.out.2.trans (hBC.mono szB)); have hszC := HBC.out.size; have yc0 := (HBC.out.cell (p := ⟨w.heap.size, 0, none⟩) hlw).trans x0; have yc1 := (HBC.out.cell (p := ⟨w.heap.size, 1, none⟩) hlw).trans x1; have yc2 := (HBC.out.cell (p := ⟨w.heap.size, 2, none⟩) hlw).trans x2; have yc3 := (HBC.out.cell (p := ⟨w.heap.size, 3, none⟩) hlw).trans x3; have yc4 := (HBC.out.cell (p := ⟨w.heap.size, 4, none⟩) hlw).trans x4; have yc5 := (HBC.out.cell (p := ⟨w.heap.size, 5, none⟩) hlw).trans x5; have yc6 := (HBC.out.cell (p := ⟨w.heap.size, 6, none⟩) hlw).trans x6; clear hBC))
          all_goals
            go_wp2_with fail
            go_meet
            case rel => exact ⟨rfl, Lib.hid (HB.out.trans (HBC.out.mono HB.out.size))⟩
        case rest =>
          obtain ⟨rfl, HB9⟩ := hcut
          have HBF := Lib.hid (HB1.out.trans (HB9.out.mono HB1.out.size))
          cases y
          · have HQ := Lib.hid (show z = false by rw [HZ.out]; exact alwR_not hk3 HY.out.symm)
            go_wp2_with fail
            go_ret
            exact ⟨ret_bool HQ.out.symm, HBF.out⟩
          · have HT2 := Lib.hid (alwK_succ HT.out HY.out.symm)
            go_wp2_with fail
            go_roundw
            case rel => exact ⟨k + 1, by omega, by go_num, HT2, Lib.hid (by repeat (first | with_reducible exact HB9.out | (with_reducible refine Below.drew ?_)))⟩
            case measure => simp [intOf]; omega
      · have t1 : decide ((k : Int) + 1 ≤ 3) = false := by rw [decide_eq_false_iff_not]; omega
        have t2 : ¬ (k : Int) + 1 ≤ 3 := by omega
        obtain rfl : k = 3 := by omega
        have HQ := Lib.hid (show z = true by rw [HZ.out]; exact alwK_all HT.out)
        have HBF := Lib.hid (HB1.out.trans (HB.out.mono HB1.out.size))
        go_wp2_with fail
        go_ret
        exact ⟨ret_bool HQ.out.symm, HBF.out⟩
theorem ralways_any (w : World) (M : Nat → Prop) (v : Value) (q : RaceD) (certain : Bool) (h : IsRace w M v q) (hv : ValidR q) : Calls Try.prog 67 #[v, .bool certain, .slice none 0 0] w fun e w' => e = .returned (.bool (alwaysB q certain)) ∧ Below w.heap.size w w' := by
  have x := ralwaysR_any q certain hv q.opn.length w M M v (.slice none 0 0) [] h IsSl.nil (by simp) (fun x hm => absurd hm (by simp))
  rw [alwR_always] at x
  exact x
end Go.Proofs.Ythlnfjbedehjdaa
/- Rows of ints in a row of their own. -/
namespace Go.Proofs.Ythlnfjbedehjdaa
open Go.RowKit
/-- a block of ints in M -/
def IntB (w : World) (M : Nat → Prop) (b : Nat) : Prop := M b ∧ ∃ cs z, w.heap[b]? = some (.cells cs 3 z)
/-- a slice of ints that lies in blocks of ints -/
def TInts (w : World) (X : Nat → Prop) (v : Value) (xs : List Int) : Prop := IsInts w (IntB w X) v xs
theorem TInts.keep {w w' : World} {X : Nat → Prop} {v : Value} {xs : List Int} (h : TInts w X v xs) (hk : ∀ b, IntB w X b → w'.heap[b]? = w.heap[b]?) : TInts w' X v xs := by
  obtain ⟨A, c, e, h1, h2, h3⟩ := h
  refine ⟨A, c, e, h1, h2, fun hn => ?_⟩
  obtain ⟨b, off, e2, hb, hc⟩ := h3 hn
  obtain ⟨hx, cs, z, hcs⟩ := id hb
  refine ⟨b, off, e2, ⟨hx, cs, z, (hk b hb).trans hcs⟩, fun i j hi hj => ?_⟩
  rw [← hc i j hi hj]
  exact World.cell?_of_block (w := w) (hk b hb)
theorem TInts.below {w w' : World} {X : Nat → Prop} {v : Value} {xs : List Int} (h : TInts w X v xs) (hb : Below w.heap.size w w') : TInts w' X v xs :=
  h.keep fun b ⟨_, _, _, e⟩ => hb.block b (lt_heap e)
theorem TInts.ofOwn {w : World} {X : Nat → Prop} {base : Nat} {v : Value} {xs : List Int} (h : w.ownsRow base 3 1 v xs.length (xs.map i64v)) (hX : ∀ b, base ≤ b → X b) : TInts w X v xs := by
  have h0 := IsInts.ofOwn h
  rcases h.2 with ⟨rfl, e⟩ | ⟨g, cap, cur, rfl, hbg, hg, -⟩
  · have : xs = [] := List.eq_nil_of_length_eq_zero e
    subst this
    exact IsSl.nil
  · obtain ⟨A, c, e, h1, h2, h3⟩ := h0
    cases e
    refine ⟨_, _, rfl, h1, h2, fun hn => ?_⟩
    obtain ⟨b, off, e2, -, hc⟩ := h3 hn
    cases e2
    exact ⟨_, _, rfl, ⟨hX _ hbg, _, _, hg⟩, hc⟩
theorem own_kept {w w' : World} {base e sz n : Nat} {v : Value} {xs : List Value} (h : w.ownsRow base e sz v n xs) (hk : ∀ b, v.ownBlock = some b → b < w.heap.size → w'.heap[b]? = w.heap[b]?) : w'.ownsRow base e sz v n xs := by
  obtain ⟨h1, h2⟩ := h
  refine ⟨h1, ?_⟩
  rcases h2 with h2 | ⟨r, cap, cur, hv, hbb, hh, rest⟩
  · exact .inl h2
  · exact .inr ⟨r, cap, cur, hv, hbb, (hk r (by rw [hv]; rfl) (lt_heap hh)).trans hh, rest⟩
/-- own rows of ints -/
structure RowsW (w : World) (X : Nat → Prop) (base : Nat) (v : Value) (rows : List (List Int)) : Prop where
  ex : ∃ vals : List Value, w.ownsRow base 22 1 v rows.length vals ∧ ∀ r, r < rows.length → ∃ u, vals[r]? = some u ∧ TInts w X u (rows.getD r [])
theorem RowsW.below {w w' : World} {X : Nat → Prop} {base : Nat} {v : Value} {rows : List (List Int)} (h : RowsW w X base v rows) (hb : Below w.heap.size w w') : RowsW w' X base v rows := by
  obtain ⟨vals, h1, h2⟩ := h.ex
  exact ⟨vals, own_belowA h1 hb, fun r hr => by obtain ⟨u, e, hu⟩ := h2 r hr; exact ⟨u, e, hu.below hb⟩⟩
theorem RowsW.sl {w : World} {X : Nat → Prop} {base : Nat} {v : Value} {rows : List (List Int)} (h : RowsW w X base v rows) : ∃ A c, v = .slice A rows.length c := by
  obtain ⟨vals, h1, -⟩ := h.ex
  exact own_sl h1
/-- no row -/
theorem RowsW.nil (w : World) (X : Nat → Prop) (base : Nat) : RowsW w X base (.slice none 0 0) [] := ⟨[], own_nil _ _ _ _, fun r hr => absurd hr (by simp)⟩
/-- the blocks of X and the rows' own block are as they were -/
theorem RowsW.kp {w w' : World} {X : Nat → Prop} {base : Nat} {v : Value} {rows : List (List Int)} (h : RowsW w X base v rows) (hk : ∀ k, k < w.heap.size → X k → w'.heap[k]? = w.heap[k]?) (ho : ∀ b, v.ownBlock = some b → b < w.heap.size → w'.heap[b]? = w.heap[b]?) : RowsW w' X base v rows := by
  obtain ⟨vals, h1, h2⟩ := h.ex
  exact ⟨vals, own_kept h1 ho, fun r hr => by
    obtain ⟨u, e, hu⟩ := h2 r hr
    exact ⟨u, e, hu.keep fun b ⟨hx, _, _, eb⟩ => hk b (lt_heap eb) hx⟩⟩
theorem RowsW.mono {w : World} {X X' : Nat → Prop} {base : Nat} {v : Value} {rows : List (List Int)} (h : RowsW w X base v rows) (hX : ∀ b, b < w.heap.size → X b → X' b) : RowsW w X' base v rows := by
  obtain ⟨vals, h1, h2⟩ := h.ex
  exact ⟨vals, h1, fun r hr => by
    obtain ⟨u, e, hu⟩ := h2 r hr
    exact ⟨u, e, IsSl.mono hu (fun b hb ⟨h3, h4⟩ => ⟨hX b hb h3, h4⟩) (by decide)⟩⟩
theorem RowsW.lt {w : World} {X : Nat → Prop} {base : Nat} {v : Value} {rows : List (List Int)} (h : RowsW w X base v rows) : ∀ b, v.ownBlock = some b → base ≤ b ∧ b < w.heap.size := by
  obtain ⟨vals, h1, -⟩ := h.ex
  exact own_lt h1
/-- the rows' own block is no block of ints -/
theorem RowsW.ne {w : World} {X : Nat → Prop} {base base' n : Nat} {v v' : Value} {rows : List (List Int)} {xs : List Value} (h : RowsW w X base v rows) (h' : w.ownsRow base' 3 1 v' n xs) : ∀ b, v'.ownBlock = some b → v.ownBlock ≠ some b := by
  intro b e1 e2
  obtain ⟨vals, h1, -⟩ := h.ex
  rcases h1.2 with ⟨rfl, -⟩ | ⟨g, cap, cur, rfl, -, hg, -⟩
  · simp [Value.ownBlock] at e2
  · rcases h'.2 with ⟨rfl, -⟩ | ⟨g', cap', cur', rfl, -, hg', -⟩
    · simp [Value.ownBlock] at e1
    · simp [Value.ownBlock] at e1 e2
      subst e1 e2
      rw [hg] at hg'
      injection hg' with hg'
      injection hg' with _ h4
      exact absurd h4 (by decide)
/-- the blocks of ints and the rows' own block are as they were -/
theorem RowsW.kpB {w w' : World} {X : Nat → Prop} {base : Nat} {v : Value} {rows : List (List Int)} (h : RowsW w X base v rows) (hk : ∀ b, IntB w X b → w'.heap[b]? = w.heap[b]?) (ho : ∀ b, v.ownBlock = some b → b < w.heap.size → w'.heap[b]? = w.heap[b]?) : RowsW w' X base v rows := by
  obtain ⟨vals, h1, h2⟩ := h.ex
  exact ⟨vals, own_kept h1 ho, fun r hr => by
    obtain ⟨u, e, hu⟩ := h2 r hr
    exact ⟨u, e, hu.keep hk⟩⟩
/-- the rows' own block is no block of ints -/
theorem RowsW.neB {w : World} {X Y : Nat → Prop} {base : Nat} {v : Value} {rows : List (List Int)} (h : RowsW w X base v rows) : ∀ b, IntB w Y b → v.ownBlock ≠ some b := by
  rintro b ⟨-, cs, z, e⟩ e2
  obtain ⟨vals, h1, -⟩ := h.ex
  rcases h1.2 with ⟨rfl, -⟩ | ⟨g, cap, cur, rfl, -, hg, -⟩
  · simp [Value.ownBlock] at e2
  · have e' : g = b := by simpa [Value.ownBlock] using e2
    rw [e', e] at hg
    injection hg with hg
    injection hg with _ h4
    exact absurd h4 (by decide)
/-- one row -/
theorem RowsW.one {w : World} {X : Nat → Prop} {base : Nat} {u : Value} {xs : List Int} (hb : base ≤ w.heap.size) (hu : TInts w X u xs) : RowsW (w.alloc (.cells #[u] 22)) X base (.slice (some ⟨w.heap.size, 0, none⟩) 1 1) [xs] := by
  refine ⟨[u], ⟨rfl, .inr ⟨w.heap.size, 1, #[u], rfl, hb, by rw [heap_alloc_if, if_pos rfl], Nat.le_refl _, by unfold maxLen; omega, rfl, rfl⟩⟩, fun r hr => ?_⟩
  match r, hr with
  | 0, _ => exact ⟨u, rfl, hu.below ((Below.refl _ _).alloc (Nat.le_refl _) _)⟩
/-- row r -/
theorem RowsW.at_ {w wr : World} {X : Nat → Prop} {base n c r : Nat} {A : Option Addr} {rows : List (List Int)} (h : RowsW w X base (.slice A n c) rows) (hb : Below w.heap.size w wr) (hr : r < rows.length) :
    ∃ b A' c', A = some ⟨b, 0, none⟩ ∧ wr.cell? ⟨b, r, none⟩ = some (.slice A' (rows.getD r []).length c') ∧ TInts wr X (.slice A' (rows.getD r []).length c') (rows.getD r []) := by
  obtain ⟨vals, h1, h2⟩ := h.ex
  obtain ⟨u, e, hu⟩ := h2 r hr
  rcases h1.2 with ⟨e2, e3⟩ | ⟨g, cap, cur, e2, -, hg, -, -, -, ht⟩
  · omega
  · cases e2
    have hu' := hu.below hb
    obtain ⟨A', c', rfl, -⟩ := id hu
    refine ⟨g, A', c', rfl, ?_, hu'⟩
    refine cell_of ((hb.block g (lt_heap hg)).trans hg) ?_
    rw [← ht, Nat.mul_one, List.getElem?_take_of_lt hr] at e
    simpa using e
theorem Try.info_ints : (Try.prog.info? 22).map (fun i => (i.zero, i.size, i.bytes)) = some (some (.slice none 0 0), 1, 24) := by kernel_rfl
theorem one_slices {w : World} {X : Nat → Prop} {rows : List (List Int)} {vals : List Value} (hl : vals.length = rows.length) (h : ∀ r, r < rows.length → ∃ u, vals[r]? = some u ∧ TInts w X u (rows.getD r [])) : ∀ u ∈ vals, u.oneCell' = true := by
  intro u hu
  obtain ⟨r, hr, rfl⟩ := List.mem_iff_getElem.1 hu
  obtain ⟨u', e, A, c, hv, -⟩ := h r (by omega)
  rw [List.getElem?_eq_getElem hr] at e
  injection e with e
  rw [e, hv]; rfl
section
variable {ops : Array Oper} {rest : List Oper} {o : Oper} {a : Act} {W : World} {Q : Exit → Act → World → Prop}
/-- append of rows onto own rows -/
theorem wpList_rows (X : Nat → Prop) (base base2 : Nat) {v vm : Value} {l m : List (List Int)} (h1 : RowsW W X base v l) (h2 : RowsW W X base2 vm m) (hlen : l.length + m.length ≤ 1000000) (hbase : base ≤ W.heap.size) (hgd : o.guard = none) (s x : Operand)
    (ho : o.op = .call { callee := .builtin .append, args := #[s, x], argTypes := #[105, 105] }) (hs : a.eval s = v) (hx : a.eval x = vm)
    (hK : ∀ A c w', Hid (RowsW w' X base (.slice A (l ++ m).length c) (l ++ m) ∧ Below base W w' ∧ (∀ k, k < W.heap.size → v.ownBlock ≠ some k → w'.heap[k]? = W.heap[k]?) ∧ ((Value.slice A (l ++ m).length c).ownBlock = v.ownBlock ∨ (Value.slice A (l ++ m).length c).ownBlock = some W.heap.size)) → wpList Try.prog ops Q rest (a.put o.dst (.slice A (l ++ m).length c)) w') : wpList Try.prog ops Q (o :: rest) a W := by
  obtain ⟨ii, hii, hz0, hz1, hz2⟩ := info_parts Try.info_ints
  obtain ⟨va, ha1, ha2⟩ := h1.ex
  obtain ⟨vb, hb1, hb2⟩ := h2.ex
  have hlb : vb.length = m.length := by have := hb1.1; omega
  have hla : va.length = l.length := by have := ha1.1; omega
  have hsl := IsSl.ofOwn (M := fun _ => True) hb1 fun _ _ => trivial
  obtain ⟨A, c, e, hl1, hl2, hcells⟩ := hsl
  refine wpList_append_cells W hgd s x 105 ho base 22 ii (.slice none 0 0) 1 24 Try.underlying105 hii hz0 hz1 hz2 rfl (by decide) v l.length va hs ha1 A m.length c vb (hx.trans e) (by omega) (fun hm => ?_) (one_slices hlb hb2) (by unfold maxLen; omega) (by omega) hbase ?_
  · obtain ⟨b, off, rfl, -, hc⟩ := hcells hm
    refine ⟨_, rfl, fun j u hj => ?_⟩
    have hjl : j < vb.length := (List.getElem?_eq_some_iff.1 hj).1
    rw [addr_add]
    have := hc j 0 (by omega) (by omega)
    rw [Nat.mul_one, Nat.add_zero] at this
    rw [this]
    show some (vb.getD (j * 1 + 0) .nilIface) = some u
    rw [Nat.mul_one, Nat.add_zero, List.getD_eq_getElem?_getD, hj]; rfl
  · intro v' w' k1 k2 k3
    have hkeep : ∀ b, IntB W X b → w'.heap[b]? = W.heap[b]? := by
      rintro b ⟨-, cs, z, e⟩
      refine k2.block b (lt_heap e) fun e3 => ?_
      rcases ha1.2 with ⟨rfl, -⟩ | ⟨g, cap, cur, rfl, -, hg, -⟩
      · simp [Value.ownBlock] at e3
      · have e' : b = g := by simpa [Value.ownBlock] using e3
        rw [← e', e] at hg
        injection hg with hg
        injection hg with _ h4
        exact absurd h4 (by decide)
    have hrows : RowsW w' X base v' (l ++ m) := by
      refine ⟨va ++ vb, by rw [List.length_append]; exact k1, fun r hr => ?_⟩
      rcases Nat.lt_or_ge r l.length with h | h
      · obtain ⟨u, e1, e2⟩ := ha2 r h
        refine ⟨u, by rw [List.getElem?_append_left (by omega)]; exact e1, ?_⟩
        rw [List.getD_eq_getElem?_getD, List.getElem?_append_left h, ← List.getD_eq_getElem?_getD]
        exact e2.keep hkeep
      · rw [List.length_append] at hr
        obtain ⟨u, e1, e2⟩ := hb2 (r - l.length) (by omega)
        refine ⟨u, by rw [List.getElem?_append_right (by omega), hla]; exact e1, ?_⟩
        rw [List.getD_eq_getElem?_getD, List.getElem?_append_right h, ← List.getD_eq_getElem?_getD]
        exact e2.keep hkeep
    obtain ⟨A', c', rfl⟩ := hrows.sl
    exact hK A' c' w' ⟨hrows, (Below.refl base W).grown k2 hbase (own_base ha1), fun k hk hne => k2.block k hk fun e => hne e.symm, k3⟩
/-- append of rows onto own rows, beside other own rows -/
theorem wpList_rows2 (X : Nat → Prop) (base base2 baseR : Nat) {v vm vr : Value} {l m R : List (List Int)} (h1 : RowsW W X base v l) (h2 : RowsW W X base2 vm m) (h3 : RowsW W X baseR vr R) (hap : ∀ b, v.ownBlock = some b → vr.ownBlock ≠ some b) (hlen : l.length + m.length ≤ 1000000) (hbase : base ≤ W.heap.size) (hgd : o.guard = none) (s x : Operand)
    (ho : o.op = .call { callee := .builtin .append, args := #[s, x], argTypes := #[105, 105] }) (hs : a.eval s = v) (hx : a.eval x = vm)
    (hK : ∀ A c w', Hid (RowsW w' X base (.slice A (l ++ m).length c) (l ++ m) ∧ RowsW w' X baseR vr R ∧ (∀ b, (Value.slice A (l ++ m).length c).ownBlock = some b → vr.ownBlock ≠ some b) ∧ Below base W w') → wpList Try.prog ops Q rest (a.put o.dst (.slice A (l ++ m).length c)) w') : wpList Try.prog ops Q (o :: rest) a W :=
  wpList_rows X base base2 h1 h2 hlen hbase hgd s x ho hs hx fun A c w' H => hK A c w' ⟨H.out.1, h3.kpB (fun b hb => H.out.2.2.1 b (by obtain ⟨-, _, _, e⟩ := hb; exact lt_heap e) (h1.neB b hb)) (fun b e hl => H.out.2.2.1 b hl fun e2 => hap b e2 e), fun b e e2 => by
    rcases H.out.2.2.2 with h | h
    · exact hap b (h ▸ e) e2
    · have h4 : b = W.heap.size := by rw [h] at e; injection e with e; exact e.symm
      have h5 := (h3.lt b e2).2
      omega, H.out.2.1⟩
end
def TT (_ : Nat) : Prop := True
theorem RowsW.drew {w : World} {X : Nat → Prop} {base : Nat} {v : Value} {rows : List (List Int)} (h : RowsW w X base v rows) : RowsW w.drew X base v rows := h.below ((Below.refl _ _).drew)
theorem RowsW.base {w : World} {X : Nat → Prop} {base base' : Nat} {v : Value} {rows : List (List Int)} (h : RowsW w X base v rows) (hb : base' ≤ base) : RowsW w X base' v rows := by
  obtain ⟨vals, ⟨h1, h1'⟩, h2⟩ := h.ex
  refine ⟨vals, ⟨h1, ?_⟩, h2⟩
  rcases h1' with h3 | ⟨r, cap, cur, hv, hbb, rest⟩
  · exact .inl h3
  · exact .inr ⟨r, cap, cur, hv, Nat.le_trans hb hbb, rest⟩
theorem TInts.belowM {w w' : World} {X : Nat → Prop} {v : Value} {xs : List Int} (h : TInts w X v xs) (hb : Below w.heap.size w w') : IsInts w' (IntB w X) v xs := by
  obtain ⟨A, c, e, h1, h2, h3⟩ := h
  refine ⟨A, c, e, h1, h2, fun hn => ?_⟩
  obtain ⟨b, off, e2, hb2, hc⟩ := h3 hn
  obtain ⟨hx, cs, z, hcs⟩ := id hb2
  refine ⟨b, off, e2, hb2, fun i j hi hj => ?_⟩
  rw [← hc i j hi hj]
  exact World.cell?_of_block (w := w) (hb.block b (lt_heap hcs))
theorem own1_new (w : World) (x : Int) : (w.alloc (.cells #[.int .i64 x] 3)).ownsRow w.heap.size 3 1 (.slice (some ⟨w.heap.size, 0, none⟩) 1 1) [x].length ([x].map i64v) :=
  ⟨rfl, .inr ⟨w.heap.size, 1, #[.int .i64 x], rfl, Nat.le_refl _, by rw [heap_alloc_if, if_pos rfl], Nat.le_refl _, by unfold maxLen; omega, rfl, rfl⟩⟩
theorem RowsW.empty {w : World} {X : Nat → Prop} {base b : Nat} (h : w.heap[b]? = some (.cells #[] 22 (0, 0))) (hb : base ≤ b) : RowsW w X base (.slice (some ⟨b, 0, none⟩) 0 0) [] :=
  ⟨[], own_empty h hb, fun r hr => absurd hr (by simp)⟩
theorem TInts.nil {w : World} {X : Nat → Prop} {A : Option Addr} {c : Nat} (hc : c ≤ 9223372036854775807) : TInts w X (.slice A 0 c) [] := ⟨A, c, rfl, by simp, by simpa using hc, fun h => absurd h (by simp)⟩
end Go.Proofs.Ythlnfjbedehjdaa
/- The rivals from a club on, and their sets. No program here. -/
namespace Go.Proofs.Ythlnfjbedehjdaa
/-- the rivals from club i on -/
def rivFr (q : RaceD) (i : Nat) : List Int := ((List.range' i (q.clubs.length - i)).filter fun (i : Nat) => decide ((i : Int) ≠ q.club)).map fun (i : Nat) => (i : Int)
theorem rivFr_zero (q : RaceD) : rivFr q 0 = rivR q := by
  unfold rivFr rivR rivTo
  rw [Nat.sub_zero, List.range_eq_range']
theorem rivFr_end {q : RaceD} {i : Nat} (h : q.clubs.length ≤ i) : rivFr q i = [] := by
  unfold rivFr
  rw [show q.clubs.length - i = 0 by omega]; rfl
theorem rivFr_yes {q : RaceD} {i : Nat} (hi : i < q.clubs.length) (h : (i : Int) ≠ q.club) : rivFr q i = (i : Int) :: rivFr q (i + 1) := by
  unfold rivFr
  rw [show q.clubs.length - i = (q.clubs.length - (i + 1)) + 1 by omega, List.range'_succ]
  simp [h]
theorem rivFr_no {q : RaceD} {i : Nat} (hi : i < q.clubs.length) (h : (i : Int) = q.club) : rivFr q i = rivFr q (i + 1) := by
  unfold rivFr
  rw [show q.clubs.length - i = (q.clubs.length - (i + 1)) + 1 by omega, List.range'_succ]
  simp [h]
theorem rivFr_le (q : RaceD) (i : Nat) : (rivFr q i).length ≤ q.clubs.length - i := by
  unfold rivFr
  rw [List.length_map]
  exact Nat.le_trans (List.length_filter_le _ _) (by simp)
/-- the sets of k + 1 rivals that begin ahead of club i, when all begin at least with club b -/
def combTo (q : RaceD) (k b : Nat) : Nat → List (List Int)
  | 0 => []
  | d + 1 => combTo q k b d ++ if ((b + d : Nat) : Int) = q.club then [] else (comb (rivFr q (b + d + 1)) k).map (((b + d : Nat) : Int) :: ·)
theorem combTo_comb (q : RaceD) (k b : Nat) : ∀ d, b + d ≤ q.clubs.length → combTo q k b d ++ comb (rivFr q (b + d)) (k + 1) = comb (rivFr q b) (k + 1)
  | 0, _ => rfl
  | d + 1, h => by
    rw [← combTo_comb q k b d (by omega)]
    show (combTo q k b d ++ if ((b + d : Nat) : Int) = q.club then [] else (comb (rivFr q (b + d + 1)) k).map (((b + d : Nat) : Int) :: ·)) ++ comb (rivFr q (b + (d + 1))) (k + 1) = _
    rw [List.append_assoc]
    congr 1
    by_cases e : ((b + d : Nat) : Int) = q.club
    · rw [if_pos e, rivFr_no (by omega) e]; rfl
    · rw [if_neg e, rivFr_yes (show b + d < q.clubs.length by omega) e, comb_cons]; rfl
theorem combTo_all {q : RaceD} {k b d : Nat} (h : b + d = q.clubs.length) : combTo q k b d = comb (rivFr q b) (k + 1) := by
  rw [← combTo_comb q k b d (by omega), rivFr_end (i := b + d) (by omega)]
  show _ = _ ++ []
  rw [List.append_nil]
theorem combTo_len {q : RaceD} {k b d : Nat} (h : b + d ≤ q.clubs.length) (h6 : q.clubs.length ≤ 6) : (combTo q k b d).length ≤ 64 := by
  have h1 := congrArg List.length (combTo_comb q k b d h)
  rw [List.length_append] at h1
  have h2 := comb_pow (rivFr q b) (k + 1)
  have h3 := rivFr_le q b
  have h4 : 2 ^ (rivFr q b).length ≤ 2 ^ 6 := Nat.pow_le_pow_right (by omega) (by omega)
  omega
theorem comb_few64 {q : RaceD} (k b : Nat) (h6 : q.clubs.length ≤ 6) : (comb (rivFr q b) k).length ≤ 64 := by
  have h2 := comb_pow (rivFr q b) k
  have h3 := rivFr_le q b
  have h4 : 2 ^ (rivFr q b).length ≤ 2 ^ 6 := Nat.pow_le_pow_right (by omega) (by omega)
  omega
theorem combTo_yes {q : RaceD} {k b d : Nat} (h : ((b + d : Nat) : Int) ≠ q.club) : combTo q k b (d + 1) = combTo q k b d ++ (comb (rivFr q (b + d + 1)) k).map (((b + d : Nat) : Int) :: ·) := by
  show combTo q k b d ++ (if ((b + d : Nat) : Int) = q.club then [] else (comb (rivFr q (b + d + 1)) k).map (((b + d : Nat) : Int) :: ·)) = _
  rw [if_neg h]
theorem combTo_no {q : RaceD} {k b d : Nat} (h : ((b + d : Nat) : Int) = q.club) : combTo q k b (d + 1) = combTo q k b d := by
  show combTo q k b d ++ (if ((b + d : Nat) : Int) = q.club then [] else (comb (rivFr q (b + d + 1)) k).map (((b + d : Nat) : Int) :: ·)) = _
  rw [if_pos h, List.append_nil]
end Go.Proofs.Ythlnfjbedehjdaa
/- sets of the reference. -/
namespace Go.Proofs.Ythlnfjbedehjdaa
open Go.RowKit Go.Deep Go.Shelf

/-- the sets that begin with a club from b on and ahead of i -/
def combI (q : RaceD) (k b i : Nat) : List (List Int) := combTo q k b (i - b)
theorem combI_yes {q : RaceD} {k b i : Nat} (hb : b ≤ i) (h : (i : Int) ≠ q.club) : combI q k b (i + 1) = combI q k b i ++ (comb (rivFr q (i + 1)) k).map ((i : Int) :: ·) := by
  unfold combI
  obtain ⟨d, rfl⟩ : ∃ d, i = b + d := ⟨i - b, by omega⟩
  rw [show b + d + 1 - b = d + 1 by omega, show b + d - b = d by omega]
  exact combTo_yes h
theorem combI_no {q : RaceD} {k b i : Nat} (hb : b ≤ i) (h : (i : Int) = q.club) : combI q k b (i + 1) = combI q k b i := by
  unfold combI
  obtain ⟨d, rfl⟩ : ∃ d, i = b + d := ⟨i - b, by omega⟩
  rw [show b + d + 1 - b = d + 1 by omega, show b + d - b = d by omega]
  exact combTo_no h
theorem combI_zero (q : RaceD) (k b : Nat) : combI q k b b = [] := by unfold combI; rw [Nat.sub_self]; rfl
theorem combI_all {q : RaceD} {k b : Nat} (h : b ≤ q.clubs.length) : combI q k b q.clubs.length = comb (rivFr q b) (k + 1) := combTo_all (by omega)
theorem combI_len {q : RaceD} {k b i : Nat} (h : b ≤ i) (hi : i ≤ q.clubs.length) (h6 : q.clubs.length ≤ 6) : (combI q k b i).length ≤ 64 := combTo_len (by omega) h6
def SetsW (w : World) (rows : List (List Int)) (e : Ending) (w' : World) : Prop := ∃ A c, e = .returned (.slice A rows.length c) ∧ RowsW w' TT w.heap.size (.slice A rows.length c) rows ∧ Below w.heap.size w w'
theorem sets0 (w : World) (M : Nat → Prop) (v : Value) (q : RaceD) (b : Nat) (h : IsRace w M v q) : Calls Try.prog 84 #[v, .int .i64 (b : Int), .int .i64 0] w (SetsW w [[]]) := by
  obtain ⟨cA, cc, pA, pc, oA, oc, rfl, -⟩ := h.parts
  clear h
  go_enter Try.func84, Try.ntmps84
  go_wp2_with fail
  refine nameG (p := fun W => bodyPost Try.prog Try.f84 _ Exit.ret _ W) fun W hW => ?_
  go_ret
  refine ⟨some ⟨w.heap.size + 1 + 1, 0, none⟩, 1, rfl, ?_, ?_⟩
  · rw [hW.out]
    have h1 : (((w.alloc (.cells #[.int .i64 q.win, .int .i64 q.draw, .slice cA q.clubs.length cc, .slice pA q.points.length pc, .slice oA q.opn.length oc, .int .i64 q.club, .int .i64 q.place] 25 (0, 0))).alloc (.cells #[] 3))).heap.size = w.heap.size + 1 + 1 := by simp
    have := RowsW.one (w := (w.alloc (.cells #[.int .i64 q.win, .int .i64 q.draw, .slice cA q.clubs.length cc, .slice pA q.points.length pc, .slice oA q.opn.length oc, .int .i64 q.club, .int .i64 q.place] 25 (0, 0))).alloc (.cells #[] 3)) (X := TT) (base := w.heap.size) (u := .slice (some ⟨w.heap.size + 1, 0, none⟩) 0 0) (xs := []) (by rw [h1]; omega) (TInts.nil (by omega))
    rw [h1] at this
    simpa using this
  · rw [hW.out]
    exact (((Below.refl _ _).alloc (Nat.le_refl _) _).alloc (by simp) _).alloc (by simp; omega) _
set_option maxRecDepth 20000 in
set_option maxHeartbeats 8000000 in
theorem rsets_any (q : RaceD) (h6 : q.clubs.length ≤ 6) : ∀ (k : Nat) (w : World) (M : Nat → Prop) (v : Value) (b : Nat), IsRace w M v q → b ≤ q.clubs.length → k ≤ 100 →
    Calls Try.prog 84 #[v, .int .i64 (b : Int), .int .i64 (k : Int)] w (SetsW w (comb (rivFr q b) k)) := by
  intro k
  induction k with
  | zero =>
    intro w M v b h hb hk
    rw [comb_zero]
    exact sets0 w M v q b h
  | succ k ih =>
    intro w M v b h hb hk
    have HIH := Lib.hid ih
    have HR := Lib.hid h
    obtain ⟨m, hm⟩ : ∃ m : Nat, m = k + 1 := ⟨_, rfl⟩
    have hm1 : (m : Int) - 1 = (k : Int) := by omega
    have hm0 : ((m : Int) == 0) = false := by rw [beq_eq_false_iff_ne]; omega
    have hm00 : ¬ (m : Int) = 0 := by omega
    have hmm : (1 : Int) ≤ (m : Int) ∧ (m : Int) ≤ 101 := by omega
    have hk0 : (0 : Int) ≤ (k : Int) ∧ (k : Int) ≤ 100 := by omega
    rw [← hm]
    have HM := Lib.hid hm
    obtain ⟨cA, cc, pA, pc, oA, oc, rfl, -⟩ := h.parts
    obtain ⟨RR, hRR⟩ : ∃ RR, RR = comb (rivFr q b) m := ⟨_, rfl⟩
    have HRR := Lib.hid (show RR = comb (rivFr q b) (k + 1) by rw [hRR, hm])
    rw [← hRR]
    have HLE := Lib.hid (fun i (h1 : b ≤ i) (h2 : i ≤ q.clubs.length) => combI_len (k := k) h1 h2 h6)
    have HL2 := Lib.hid (fun i => comb_few64 k i h6)
    have hb0 : (0 : Int) ≤ (b : Int) := by omega
    have HK1 := Lib.hid (show k ≤ 100 by omega)
    have HBQ := Lib.hid hb
    have HAL := Lib.hid (combI_all (k := k) hb)
    obtain ⟨n, hn⟩ : ∃ n, n = q.clubs.length := ⟨_, rfl⟩
    have hn6 : n ≤ 6 := hn ▸ h6
    have hbn : b ≤ n := hn ▸ hb
    have HN := Lib.hid hn
    rw [← hn] at HLE HAL ⊢
    clear ih h hb hk hm h6 hRR hn
    go_enter Try.func84, Try.ntmps84
    go_upto_region 1 with fail
    refine nameC fun W1 hW1 => ?_
    have hb1 : Below w.heap.size w W1 := by rw [hW1.out]; exact (Below.refl _ _).alloc (Nat.le_refl _) _
    have k0 : W1.heap[w.heap.size]? = some (.cells #[.int .i64 q.win, .int .i64 q.draw, .slice cA n cc, .slice pA q.points.length pc, .slice oA q.opn.length oc, .int .i64 q.club, .int .i64 q.place] 25 (0, 0)) := by rw [hW1.out]; exact heap_alloc_new _ _
    have HC := Lib.hid (show ∀ W', Below W1.heap.size W1 W' → (W'.cell? ⟨w.heap.size, 0, none⟩ = some (.int .i64 q.win) ∧ W'.cell? ⟨w.heap.size, 1, none⟩ = some (.int .i64 q.draw) ∧ W'.cell? ⟨w.heap.size, 2, none⟩ = some (.slice cA n cc) ∧ W'.cell? ⟨w.heap.size, 3, none⟩ = some (.slice pA q.points.length pc) ∧ W'.cell? ⟨w.heap.size, 4, none⟩ = some (.slice oA q.opn.length oc) ∧ W'.cell? ⟨w.heap.size, 5, none⟩ = some (.int .i64 q.club) ∧ W'.cell? ⟨w.heap.size, 6, none⟩ = some (.int .i64 q.place)) from fun W' h => by
      have e0 := (h.block _ (lt_heap k0)).trans k0
      exact ⟨cell_of e0 rfl, cell_of e0 rfl, cell_of e0 rfl, cell_of e0 rfl, cell_of e0 rfl, cell_of e0 rfl, cell_of e0 rfl⟩)
    have HB1 := Lib.hid hb1
    clear hW1 hb1 k0
    go_wp2_with fail
    go_loopw [7, 8] (fun s7 s8 wr => ∃ (i : Nat) (O : List (List Int)) (A : Option Addr) (c : Nat), b ≤ i ∧ i ≤ n ∧ s8 = .int .i64 (i : Int) ∧ s7 = .slice A O.length c ∧ Hid (O = combI q k b i) ∧ Hid (RowsW wr TT W1.heap.size (.slice A O.length c) O) ∧ Hid (Below W1.heap.size W1 wr)) (fun _ s8 _ => n - (intOf s8).toNat)
    case atStart =>
      refine ⟨b, [], some ⟨W1.heap.size, 0, none⟩, 0, Nat.le_refl _, hbn, rfl, rfl, Lib.hid (combI_zero q k b).symm, Lib.hid ?_, Lib.hid ((Below.refl _ _).alloc (Nat.le_refl _) _)⟩
      exact RowsW.empty (by rw [heap_alloc_if, if_pos rfl]) (Nat.le_refl _)
    case round =>
      obtain ⟨i, O, A, c, hbi, hin, rfl, rfl, HO, HRW, HB⟩ := hrel
      obtain ⟨r0, r1, r2, r3, r4, r5, r6⟩ := HC.out _ HB.out
      have hi0 : (0 : Int) ≤ (i : Int) := by omega
      by_cases hlt : i < n
      · have hltI : (i : Int) < (n : Int) := by omega
        by_cases hc : (i : Int) = q.club
        · have hcb : ((i : Int) == q.club) = true := by rw [beq_iff_eq]; exact hc
          have HO2 := Lib.hid (show O = combI q k b (i + 1) by rw [HO.out, combI_no hbi hc])
          clear hc
          go_wp2_with fail
          go_roundw
          case rel => exact ⟨i + 1, O, A, c, by omega, by omega, by go_num, rfl, HO2, Lib.hid (by repeat (first | with_reducible exact HRW.out | (with_reducible refine RowsW.drew ?_))), Lib.hid (by repeat (first | with_reducible exact HB.out | (with_reducible refine Below.drew ?_)))⟩
          case measure => simp [intOf]; omega
        · have hcb : ((i : Int) == q.club) = false := by rw [beq_eq_false_iff_ne]; exact hc
          have HCB := Lib.hid hc
          clear hc
          go_wp2_with fail
          refine nameW fun W2 hW2 => ?_
          have HB2 : Hid (Below W1.heap.size W1 W2) := Lib.hid (by rw [hW2.out]; repeat (first | with_reducible exact HB.out | (with_reducible refine Below.drew ?_)))
          have HRW2 : Hid (RowsW W2 TT W1.heap.size (.slice A O.length c) O) := Lib.hid (by rw [hW2.out]; repeat (first | with_reducible exact HRW.out | (with_reducible refine RowsW.drew ?_)))
          clear hW2
          have x := HIH.out W2 M _ (i + 1) (HR.out.below (HB1.out.trans (HB2.out.mono HB1.out.size))) (by rw [← HN.out]; omega) (by have := HK1.out; omega)
          rw [← HN.out] at x
          obtain ⟨RS, hRS⟩ : ∃ RS, RS = comb (rivFr q (i + 1)) k := ⟨_, rfl⟩
          have HRS := Lib.hid hRS
          have HO3 := Lib.hid (show combI q k b (i + 1) = O ++ RS.map ((i : Int) :: ·) by rw [combI_yes hbi HCB.out, ← HO.out, ← hRS])
          have hl1 : O.length ≤ 64 := by rw [HO.out]; exact HLE.out i hbi hin
          have hl2 : RS.length ≤ 64 := by rw [hRS]; exact HL2.out _
          rw [← hRS] at x
          refine Calls.mono (by first | exact x | (rw [show ((i : Int) + 1) = ((i + 1 : Nat) : Int) from rfl]; exact x)) ?_
          rintro e W5 ⟨A5, c5, rfl, hrows, hb5⟩
          have HR5 := Lib.hid hrows
          have HB5 := Lib.hid (HB2.out.trans (hb5.mono HB2.out.size))
          have HO5 := Lib.hid (HRW2.out.below hb5)
          have HAP := Lib.hid (show ∀ b, (Value.slice A O.length c).ownBlock = some b → (Value.slice A5 RS.length c5).ownBlock ≠ some b from fun b e1 e2 => by
            have h1 := (HRW2.out.lt b e1).2
            have h2 := (hrows.lt b e2).1
            omega)
          have HS2 := Lib.hid HB2.out.size
          clear r0 r1 r2 r3 r4 r5 r6 x hRS hrows hb5 HB2 HRW2 HRW HB
          go_wp2_with fail
          go_loopw [7, 10] (fun s7 s10 wr => ∃ (j : Nat) (P : List (List Int)) (A2 : Option Addr) (c2 : Nat), j ≤ RS.length ∧ s10 = .int .i64 (j : Int) ∧ s7 = .slice A2 P.length c2 ∧ Hid (P = O ++ (RS.take j).map ((i : Int) :: ·)) ∧ Hid (RowsW wr TT W1.heap.size (.slice A2 P.length c2) P) ∧ Hid (RowsW wr TT W2.heap.size (.slice A5 RS.length c5) RS) ∧ Hid (∀ b, (Value.slice A2 P.length c2).ownBlock = some b → (Value.slice A5 RS.length c5).ownBlock ≠ some b) ∧ Hid (Below W1.heap.size W1 wr)) (fun _ s10 _ => RS.length - (intOf s10).toNat)
          case atStart => exact ⟨0, O, A, c, by omega, rfl, rfl, Lib.hid (by simp), Lib.hid (by repeat (first | with_reducible exact HO5.out | (with_reducible refine RowsW.drew ?_))), Lib.hid (by repeat (first | with_reducible exact HR5.out | (with_reducible refine RowsW.drew ?_))), HAP, Lib.hid (by repeat (first | with_reducible exact HB5.out | (with_reducible refine Below.drew ?_)))⟩
          case round =>
            obtain ⟨j, P, A2, c2, hj, rfl, rfl, HP, HRP, HRR2, HAP2, HBX⟩ := hrel
            have hj0 : (0 : Int) ≤ (j : Int) := by omega
            by_cases hjl : j < RS.length
            · have hjI : (j : Int) < (RS.length : Int) := by omega
              obtain ⟨gr, Aj, cj, rfl, hcj, hTj⟩ := HRR2.out.at_ (Below.refl _ _) hjl
              obtain ⟨rj, hrj⟩ : ∃ rj, rj = RS.getD j [] := ⟨_, rfl⟩
              rw [← hrj] at hcj hTj
              have HT := Lib.hid hTj
              have hgrl : gr < wr.heap.size := lt_of_cell hcj
              have HRJ := Lib.hid (show P ++ [(i : Int) :: rj] = O ++ (RS.take (j + 1)).map ((i : Int) :: ·) by
                rw [HP.out, List.append_assoc, List.take_add_one, List.getElem?_eq_getElem hjl, List.map_append, hrj, List.getD_eq_getElem?_getD, List.getElem?_eq_getElem hjl]; rfl)
              have hPl : P.length ≤ 200 := by
                rw [HP.out, List.length_append, List.length_map, List.length_take]; omega
              have hrl : rj.length ≤ 1000 := by rw [hrj, HRS.out, List.getD_eq_getElem?_getD, List.getElem?_eq_getElem (by rw [← HRS.out]; exact hjl)]; have := comb_length _ _ _ (List.getElem_mem (show j < (comb (rivFr q (i + 1)) k).length by rw [← HRS.out]; exact hjl)); have := HK1.out; show ((comb (rivFr q (i + 1)) k)[j]'_).length ≤ 1000; omega
              have hs1 : W1.heap.size ≤ wr.heap.size := HBX.out.size
              clear hrj hTj
              go_wp2_with (first
                | (refine wpList_ints rfl (.tmp 42) (.tmp 46) rfl wr.heap.size [(i : Int)] rj (M := IntB wr TT) (v := .slice (some ⟨wr.heap.size, 0, none⟩) 1 1) (A := Aj) (n := rj.length) (c := cj) rfl (own1_new wr (i : Int)) rfl (TInts.belowM HT.out ((Below.refl _ _).alloc (Nat.le_refl _) _)) (by simp; omega) (by simp) ?_
                   intro A6 d6 w6 H6
                   have HB6 : Hid (Below wr.heap.size wr w6) := Lib.hid (((Below.refl _ _).alloc (Nat.le_refl _) (.cells #[.int .i64 (i : Int)] 3)).trans H6.out.2.1)
                   have HT6 : Hid (TInts w6 TT (.slice A6 ([(i : Int)] ++ rj).length d6) ((i : Int) :: rj)) := Lib.hid (TInts.ofOwn H6.out.1 fun _ _ => trivial)
                   have hs6 : wr.heap.size ≤ w6.heap.size := HB6.out.size)
                | (refine wpList_rows2 TT W1.heap.size w6.heap.size W2.heap.size (l := P) (m := [(i : Int) :: rj]) (R := RS) (v := .slice A2 P.length c2) (vr := .slice (some ⟨gr, 0, none⟩) RS.length c5) (HRP.out.below (HB6.out.trans ((Below.refl _ _).alloc hs6 _))) (RowsW.one (Nat.le_refl _) HT6.out) (HRR2.out.below (HB6.out.trans ((Below.refl _ _).alloc hs6 _))) HAP2.out (by simp; omega) (by simp; omega) rfl (.tmp 40) (.tmp 48) rfl rfl rfl ?_
                   intro A7 d7 w7 H7
                   have HB7 : Hid (Below W1.heap.size W1 w7) := Lib.hid (HBX.out.trans (((HB6.out.trans ((Below.refl _ _).alloc hs6 (.cells #[.slice A6 ([(i : Int)] ++ rj).length d6] 22))).mono hs1).trans H7.out.2.2.2))))
              (try simp only [Act.put])
              go_roundw
              case rel => exact ⟨j + 1, P ++ [(i : Int) :: rj], A7, d7, by omega, by go_num, by rw [List.length_append]; rfl, HRJ, Lib.hid (by repeat (first | with_reducible exact H7.out.1 | (with_reducible refine RowsW.drew ?_))), Lib.hid (by repeat (first | with_reducible exact H7.out.2.1 | (with_reducible refine RowsW.drew ?_))), Lib.hid H7.out.2.2.1, Lib.hid (by repeat (first | with_reducible exact HB7.out | (with_reducible refine Below.drew ?_)))⟩
              case measure => simp [intOf]; omega
            · have hjI : ¬ (j : Int) < (RS.length : Int) := by omega
              obtain rfl : j = RS.length := by omega
              have HO2 := Lib.hid (show P = combI q k b (i + 1) by rw [HP.out, List.take_length, HO3.out])
              go_wp2_with fail
              exact ⟨⟨i + 1, P, A2, c2, by omega, by omega, by go_num, rfl, HO2, Lib.hid (by repeat (first | with_reducible exact HRP.out | (with_reducible refine RowsW.drew ?_))), Lib.hid (by repeat (first | with_reducible exact HBX.out | (with_reducible refine Below.drew ?_)))⟩, by simp [intOf]; omega⟩
      · have hltI : ¬ (i : Int) < (n : Int) := by omega
        obtain rfl : i = n := by omega
        have HQ := Lib.hid (show O = RR by rw [HO.out, HRR.out, HAL.out])
        go_wp2_with fail
        go_ret
        refine ⟨A, c, ?_, ?_, ?_⟩
        · rw [← HQ.out]; rfl
        · rw [← HQ.out]
          exact HRW.out.base HB1.out.size
        · exact HB1.out.trans (HB.out.mono HB1.out.size)
end Go.Proofs.Ythlnfjbedehjdaa
