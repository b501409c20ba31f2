import Derived.Test.YtbkgkgigcohbpaaO1
import Derived.Deep.RegionHeld3
import Derived.Deep.DeepCutAuto
namespace Go.Proofs.Ytbkgkgigcohbpaa
open Go.RowKit
theorem ofN_contains (bs : List Nat) (k : Nat) : (ofN bs).contains (k : Int) = bs.contains k := by
  rw [Bool.eq_iff_iff, List.contains_iff_mem, List.contains_iff_mem]
  unfold ofN
  rw [List.mem_map]
  constructor
  · rintro ⟨a, ha, e⟩; rw [← Int.ofNat.inj e]; exact ha
  · intro h; exact ⟨k, h, rfl⟩
theorem at_free (bs : List Nat) (k : Nat) : decide (idxI (ofN bs) (k : Int) < 0) = !(setOf bs 0).testBit k := by
  rw [has_neg, ofN_contains, setOf_bit, Nat.zero_testBit, Bool.false_or]
/-- the rows that begin with bs and go on with one of the first k -/
def rowsTo (d : DrawD) (bs : List Nat) (f k : Nat) : List (List Int) :=
  ((List.range k).flatMap fun j => if !(setOf bs 0).testBit j && mayD d bs.length j then (outs (mayD d) (nD d) f (bs.length + 1) (wth (setOf bs 0) j)).map (j :: ·) else []).map fun x => ofN (bs ++ x)
theorem rowsTo_succ (d : DrawD) (bs : List Nat) (f k : Nat) : rowsTo d bs f (k + 1) = rowsTo d bs f k ++ (if !(setOf bs 0).testBit k && mayD d bs.length k then (outs (mayD d) (nD d) f (bs.length + 1) (wth (setOf bs 0) k)).map (fun x => ofN ((bs ++ [k]) ++ x)) else []) := by
  unfold rowsTo
  rw [List.range_succ, List.flatMap_append, List.map_append, List.flatMap_singleton]
  congr 1
  split
  · rw [List.map_map]; congr 1; funext x; simp
  · rfl
theorem setOf_snoc (bs : List Nat) (k : Nat) : setOf (bs ++ [k]) 0 = wth (setOf bs 0) k := by unfold setOf; rw [List.foldl_append]; rfl
theorem rowsTo_len {d : DrawD} {bs : List Nat} {f k : Nat} (hk : k ≤ nD d) (hp : pcn (setOf bs 0) (nD d) + (f + 1) = nD d) : (rowsTo d bs f k).length ≤ fct (f + 1) := by
  unfold rowsTo
  rw [List.length_map, flatMap_len]
  refine Nat.le_trans ?_ (rest_le (mayD d) (nD d) (f + 1) bs.length (setOf bs 0) hp)
  rw [rest]
  refine Nat.le_trans (sumB_mono hk) (Nat.le_of_eq (sumB_congr fun j _ => ?_))
  split
  · rw [List.length_map, outs_len]
  · rfl
def IntE (W : World) (b : Nat) : Prop := W.heap[b]? = some (.cells #[] 3 (0, 0))
theorem IntE.new {W : World} {b : Nat} (h : b = W.heap.size) : IntE (W.alloc (.cells #[] 3)) b := by unfold IntE; rw [heap_alloc_if, if_pos h]
theorem IntE.alloc {W : World} {b : Nat} (h : IntE W b) (o : Obj) : IntE (W.alloc o) b := (Below.heap_alloc _ _ _ (lt_heap h)).trans h
theorem IntE.drew {W : World} {b : Nat} (h : IntE W b) : IntE W.drew b := h
section
variable {ops : Array Oper} {o : Oper} {a : Act} {W : World} {K : Act → World → Prop} {Q : Exit → Act → World → Prop} {E : Prop}
theorem q8A {W0 : World} {b0 : Nat} {vb : Value} {bs : List Nat} (h0 : IntE W b0) (hbe : Below W0.heap.size W0 W) (hb : W0.heap.size ≤ b0) (hT : TInts W0 vb (ofN bs)) (hlen : bs.length ≤ 1000) (hgd : o.guard = none) (s x : Operand)
    (ho : o.op = .call { callee := .builtin .append, args := #[s, x], argTypes := #[22, 22] }) (hs : a.eval s = .slice (some ⟨b0, 0, none⟩) 0 0) (hx : a.eval x = vb)
    (hK : ∀ A c w', Hid (w'.ownsRow W0.heap.size 3 1 (.slice A bs.length c) bs.length ((ofN bs).map i64v) ∧ Below W0.heap.size W0 w') → (∀ b y, ArrIn W b y → ArrIn w' b y) → K (a.put o.dst (.slice A bs.length c)) w') :
    if Region.wanted o (yielded ops a.tmps) = true then Oper.wp Try.prog o a W K Q else E := by
  obtain ⟨ii, hii, hz0, hz1, hz2⟩ := info_parts Try.info_int
  obtain ⟨A, c, rfl, hl1, hl2, hcells⟩ := hT.below hbe
  have hlb : (ofN bs).length = bs.length := ofN_len bs
  refine step_append_cells W hgd s x 22 ho W0.heap.size 3 ii (.int .i64 0) 1 8 Try.underlying22 hii hz0 hz1 hz2 rfl (by decide) _ 0 [] hs (own_empty h0 hb) A (ofN bs).length c ((ofN bs).map i64v) hx (by simp) (fun hn => ?_) (by intro u hu; rw [List.mem_map] at hu; obtain ⟨y, -, rfl⟩ := hu; rfl) (by unfold maxLen; omega) (by omega) hbe.size ?_
  · obtain ⟨b, off, rfl, -, hc⟩ := hcells hn
    refine ⟨_, rfl, fun j u hj => ?_⟩
    have hjl : j < ((ofN bs).map i64v).length := (List.getElem?_eq_some_iff.1 hj).1
    rw [List.length_map] at hjl
    rw [addr_add]
    have := hc j 0 hjl (by omega)
    rw [Nat.mul_one, Nat.add_zero] at this
    rw [this]
    rw [List.getElem?_map, List.getElem?_eq_getElem hjl] at hj
    show some (Value.int .i64 ((ofN bs).getD j 0)) = some u
    rw [List.getD_eq_getElem?_getD, List.getElem?_eq_getElem hjl]
    exact hj
  · intro v' w' k1 k2 k3
    rw [List.nil_append, Nat.zero_add, hlb] at k1
    obtain ⟨A', c', rfl⟩ := own_sl k1
    refine hK A' c' w' ⟨k1, hbe.trans ((Below.refl _ W).grown k2 hbe.size (fun q e => by
      have : q = b0 := by simpa [Value.ownBlock] using e.symm
      omega))⟩ fun b y hy => ?_
    refine (k2.block b (lt_heap hy) fun e => ?_).trans hy
    have e' : b = b0 := by simpa [Value.ownBlock] using e
    unfold ArrIn at hy
    unfold IntE at h0
    rw [e', h0] at hy
    cases hy
theorem q8B {W0 : World} {b : Nat} {v : Value} {bs : List Nat} {k : Nat} (hown : W.ownsRow W0.heap.size 3 1 v bs.length ((ofN bs).map i64v)) (ha : ArrIn W b (i64v (k : Int))) (hbe : Below W0.heap.size W0 W) (hlen : bs.length ≤ 1000) (hgd : o.guard = none) (s x : Operand)
    (ho : o.op = .call { callee := .builtin .append, args := #[s, x], argTypes := #[22, 22] }) (hs : a.eval s = v) (hx : a.eval x = .slice (some ⟨b, 0, none⟩) 1 1)
    (hK : ∀ A c w', Hid (TInts w' (.slice A (bs.length + 1) c) (ofN (bs ++ [k])) ∧ Below W0.heap.size W0 w') → K (a.put o.dst (.slice A (bs.length + 1) c)) w') :
    if Region.wanted o (yielded ops a.tmps) = true then Oper.wp Try.prog o a W K Q else E := by
  obtain ⟨ii, hii, hz0, hz1, hz2⟩ := info_parts Try.info_int
  refine step_append_cells W hgd s x 22 ho W0.heap.size 3 ii (.int .i64 0) 1 8 Try.underlying22 hii hz0 hz1 hz2 rfl (by decide) v bs.length ((ofN bs).map i64v) hs hown (some ⟨b, 0, none⟩) 1 1 [i64v (k : Int)] hx rfl (fun _ => ⟨_, rfl, ArrIn.cells ha⟩) (one_i64 _) (by unfold maxLen; omega) (by omega) hbe.size ?_
  intro v' w' k1 k2 k3
  rw [ofN_snoc] at k1
  obtain ⟨A', c', rfl⟩ := own_sl k1
  refine hK A' c' w' ⟨TInts.ofOwn (base := W0.heap.size) (by rw [ofN_len, List.length_append]; exact k1), hbe.trans ((Below.refl _ W).grown k2 hbe.size (own_base hown))⟩
end
set_option maxHeartbeats 4000000 in
theorem outcomes_any (d : DrawD) (hc : checkB d = true) (h6 : nD d ≤ 6) : ∀ (f : Nat) (w : World) (M : Nat → Prop) (v vb : Value) (bs : List Nat), IsDraw w M v d → TInts w vb (ofN bs) → bs.length + f = nD d → pcn (setOf bs 0) (nD d) = bs.length → setOf bs 0 < 2 ^ nD d →
    Calls Try.prog 29 #[v, vb] w fun e w' => ∃ v', e = .returned v' ∧ RowsW w' w.heap.size v' ((outs (mayD d) (nD d) f bs.length (setOf bs 0)).map fun x => ofN (bs ++ x)) ∧ Below w.heap.size w w' := by
  intro f
  induction f with
  | zero =>
    intro w M v vb bs h hb hl hp hs
    have HT := Lib.hid hb
    obtain ⟨v1, v2, v3, rfl, ⟨A1, c1, rfl, -⟩, -, -⟩ := h
    obtain ⟨A, c, rfl, -⟩ := hb
    have e1 : d.first.length = (ofN bs).length := by rw [ofN_len]; exact hl.symm
    rw [e1]
    go_enter Try.func29, Try.ntmps29
    go_wp2_with fail
    refine nameG (p := fun W => bodyPost Try.prog Try.f29 _ Exit.ret _ W) fun W hW => ?_
    go_ret
    refine ⟨.slice (some ⟨w.heap.size + 1, 0, none⟩) 1 1, rfl, ?_, ?_⟩
    · have hb1 : Below w.heap.size w (w.alloc (.cells #[.slice A1 (ofN bs).length c1, v2, v3] 25)) := (Below.refl _ _).alloc (Nat.le_refl _) _
      have := RowsW.one (w := w.alloc (.cells #[.slice A1 (ofN bs).length c1, v2, v3] 25)) (base := w.heap.size) hb1.size (TInts.below HT.out hb1)
      rw [World.size_alloc] at this
      rw [hW.out, outs]
      simpa using this
    · rw [hW.out]
      exact ((Below.refl _ _).alloc (Nat.le_refl _) _).alloc (by simp) _
  | succ f ih =>
    intro w M v vb bs h hb hl hp hs
    have HT := Lib.hid hb
    have HD := Lib.hid h
    obtain ⟨v1, v2, v3, rfl, ⟨A1, c1, rfl, -⟩, ⟨A2, c2, rfl, -⟩, ⟨A3, c3, rfl, -⟩⟩ := h
    obtain ⟨A, c, rfl, hl1, hl2, -⟩ := hb
    obtain ⟨n, hn⟩ : ∃ n, n = nD d := ⟨_, rfl⟩
    have hn1 : d.first.length = n := hn.symm
    have hn2 : d.second.length = n := by rw [hn]; exact (checkB_len hc).2.2.1.symm
    have hbl : (ofN bs).length = bs.length := ofN_len bs
    rw [hn1, hn2] at HD
    rw [hn1, hn2]
    have e7 : Value.slice A (ofN bs).length c = Value.slice A bs.length c := by rw [hbl]
    rw [e7] at HT ⊢
    have HN := Lib.hid (And.intro hn (And.intro hn1 hn2))
    have HP := Lib.hid (And.intro hp (And.intro hs hl))
    have hin : bs.length < n := by rw [hn]; omega
    have hne : ((bs.length : Int) == (n : Int)) = false := by rw [beq_eq_false_iff_ne]; omega
    have hne2 : ¬ (bs.length : Int) = (n : Int) := by omega
    have hn6 : n ≤ 6 := hn ▸ h6
    have HLE := Lib.hid (fun k (hk : k ≤ n) => rowsTo_len (bs := bs) (f := f) (hn ▸ hk) (by omega))
    clear hn hn1 hn2 hbl e7 hp hs hl hl1 hl2
    go_enter Try.func29, Try.ntmps29
    go_wp2_with fail
    go_loopw [5, 6] (fun q5 q6 wr => ∃ k : Nat, k ≤ n ∧ q6 = .int .i64 (k : Int) ∧ Hid (RowsW wr (w.heap.size + 1) q5 (rowsTo d bs f k)) ∧ Hid (Below w.heap.size w wr) ∧ Hid (wr.heap[w.heap.size]? = some (.cells #[.slice A1 n c1, .slice A2 n c2, .slice A3 d.forb.length c3] 25 (0, 0)))) (fun _ q _ => n - (intOf q).toNat)
    case atStart =>
      refine ⟨0, Nat.zero_le _, rfl, Lib.hid (RowsW.empty (by simp only [heap_alloc_if, World.size_alloc]; rw [if_pos trivial]) (by omega)), Lib.hid (((Below.refl _ _).alloc (Nat.le_refl _) _).alloc (by simp) _), Lib.hid ?_⟩
      simp only [heap_alloc_if, World.size_alloc]
      rw [if_neg (by omega), if_pos trivial]
    case round =>
      obtain ⟨k, hk, rfl, HR, HB, HX⟩ := hrel
      have hbx := HX.out
      have c0 := cell_of (j := 0) hbx rfl
      have c1' := cell_of (j := 1) hbx rfl
      have c2' := cell_of (j := 2) hbx rfl
      clear hbx
      by_cases hkn : k < n
      · have hkk : (k : Int) < (n : Int) := by omega
        have hk0 : (0 : Int) ≤ (k : Int) := by omega
        obtain ⟨z, hz⟩ : ∃ z, z = idxI (ofN bs) (k : Int) := ⟨_, rfl⟩
        have hzf := at_free bs k
        rw [← hz] at hzf
        have CA := Lib.hid (refAt_any26 wr _ _ (ofN bs) (HT.out.below HB.out) (k : Int))
        rw [← hz] at CA
        have CM := Lib.hid (refMay_any wr M _ d (HD.out.below HB.out) bs.length k (by rw [HN.out.2.1]; exact hin) (by rw [HN.out.2.2]; exact hkn))
        clear hz
        go_upto_region 7 with fail
        go_cut [33] (fun c wx => c = .bool (!(setOf bs 0).testBit k && mayD d bs.length k) ∧ Hid (Below wr.heap.size wr wx))
        case first =>
          by_cases hb : (setOf bs 0).testBit k = true
          · rw [hb, Bool.not_true, decide_eq_false_iff_not] at hzf
            have hz0 : (0 : Int) ≤ z := by omega
            go_wp2_with fail
            refine CA.out.mono ?_
            rintro e W ⟨rfl, rfl⟩
            go_wp2_with fail
            go_meet
            case rel => exact ⟨by rw [hb]; rfl, Below.refl _ _⟩
          · have hb : (setOf bs 0).testBit k = false := by simpa using hb
            rw [hb, Bool.not_false, decide_eq_true_eq] at hzf
            go_wp2_with fail
            refine CA.out.mono ?_
            rintro e W ⟨rfl, rfl⟩
            go_wp2_with fail
            refine CM.out.mono ?_
            rintro e W2 ⟨rfl, hW2⟩
            go_wp2_with fail
            go_meet
            case rel => exact ⟨by rw [hb]; rfl, hW2⟩
        case rest =>
          obtain ⟨rfl, HW⟩ := hcut
          have HR2 := Lib.hid (HR.out.below HW.out)
          have HB2 := Lib.hid (HB.out.trans (HW.out.mono HB.out.size))
          have HX2 := Lib.hid ((HW.out.block _ (lt_heap HX.out)).trans HX.out)
          have HRS := Lib.hid (rowsTo_succ d bs f k)
          clear HR HB HX CA CM c0 c1' c2' hzf
          cases hbm : (!(setOf bs 0).testBit k && mayD d bs.length k)
          · rw [hbm] at HRS
            go_wp2_with fail
            go_roundw
            case rel => exact ⟨k + 1, by omega, by go_num, by rw [HRS.out]; simpa using HR2, HB2, HX2⟩
            case measure => simp [intOf]; omega
          · rw [hbm, if_pos rfl] at HRS
            rw [Bool.and_eq_true, Bool.not_eq_true'] at hbm
            have hpn := HP.out.1
            have hsn := HP.out.2.1
            rw [← HN.out.1] at hpn hsn
            obtain ⟨RL, hRL⟩ : ∃ RL, RL = (outs (mayD d) (nD d) f (bs.length + 1) (wth (setOf bs 0) k)).map (fun x => ofN ((bs ++ [k]) ++ x)) := ⟨_, rfl⟩
            rw [← hRL] at HRS
            have CI : ∀ (W : World) (A' : Option Addr) (c' : Nat), Below wc.heap.size wc W → TInts W (.slice A' (bs.length + 1) c') (ofN (bs ++ [k])) → Calls Try.prog 29 #[.agg #[.slice A1 n c1, .slice A2 n c2, .slice A3 d.forb.length c3], .slice A' (bs.length + 1) c'] W fun e w' => ∃ v', e = .returned v' ∧ RowsW w' W.heap.size v' RL ∧ Below W.heap.size W w' := by
              intro W A' c' hb ht
              have := ih W M _ _ (bs ++ [k]) (HD.out.below (HB2.out.trans (hb.mono HB2.out.size))) ht (by rw [List.length_append, List.length_singleton]; have := HP.out.2.2; omega) (by rw [setOf_snoc, pcn_wth hbm.1, if_pos (HN.out.1 ▸ hkn), HP.out.1, List.length_append]; rfl) (by rw [setOf_snoc]; exact wth_lt HP.out.2.1 (HN.out.1 ▸ hkn))
              rw [setOf_snoc, List.length_append, List.length_singleton, ← hRL] at this
              exact this
            have hlen2 : (rowsTo d bs f k).length + RL.length ≤ 1000000 := by
              have h1 := HLE.out (k + 1) (by omega)
              rw [HRS.out, List.length_append] at h1
              have h2 : fct (f + 1) ≤ fct 6 := fct_mono (by have := HP.out.2.2; rw [← HN.out.1] at this; omega)
              have h3 : fct 6 = 720 := by decide
              omega
            have hl1000 : bs.length ≤ 1000 := by omega
            have hlw : w.heap.size < wc.heap.size := lt_heap HX2.out
            have hbx := HX2.out
            have x0 : wc.cell? ⟨w.heap.size, 0, none⟩ = some (.slice A1 n c1) := cell_of (j := 0) hbx rfl
            have x1 : wc.cell? ⟨w.heap.size, 1, none⟩ = some (.slice A2 n c2) := cell_of (j := 1) hbx rfl
            have x2 : wc.cell? ⟨w.heap.size, 2, none⟩ = some (.slice A3 d.forb.length c3) := cell_of (j := 2) hbx rfl
            have HTC := Lib.hid (HT.out.below HB2.out)
            obtain ⟨A5, q5, rfl⟩ := HR2.out.sl
            clear hRL hpn hsn hbm hbx HLE
            go_wp2_with fail
            go_region_held3 (fun w' => w'.cell? ⟨w.heap.size, 0, none⟩ = some (.slice A1 n c1) ∧ w'.cell? ⟨w.heap.size, 1, none⟩ = some (.slice A2 n c2) ∧ w'.cell? ⟨w.heap.size, 2, none⟩ = some (.slice A3 d.forb.length c3)) (first | with_reducible exact ⟨x0, x1, x2⟩ | with_reducible exact ⟨a0, a1, a2⟩ | with_reducible exact ⟨b0, b1, b2⟩ | with_reducible exact ⟨yc0, yc1, yc2⟩ | with_reducible exact ⟨d0, d1, d2⟩ | go_keep) (first | (refine q8A (W0 := wc) (b0 := wc.heap.size) (vb := .slice A bs.length c) (bs := bs) ?_ ?_ (Nat.le_refl _) HTC.out hl1000 rfl (.tmp 36) (.tmp 37) rfl rfl rfl ?_; (focus ((repeat (first | (with_reducible refine IntE.drew ?_) | (exact IntE.new (by simp)) | (with_reducible refine IntE.alloc ?_ _))); done)); (focus ((repeat (first | with_reducible exact Below.refl wc.heap.size wc | (with_reducible refine Below.drew ?_) | (with_reducible refine Below.alloc ?_ (by first | omega | (simp; done) | (simp; omega)) _))); done)); intro AA cA wA HA KA; have a0 := (HA.out.2.cell (p := ⟨w.heap.size, 0, none⟩) hlw).trans x0; have a1 := (HA.out.2.cell (p := ⟨w.heap.size, 1, none⟩) hlw).trans x1; have a2 := (HA.out.2.cell (p := ⟨w.heap.size, 2, none⟩) hlw).trans x2; have szA := HA.out.2.size) | (refine q8A (W0 := wc) (b0 := wc.heap.size + 1) (vb := .slice A bs.length c) (bs := bs) ?_ ?_ (Nat.le_succ _) HTC.out hl1000 rfl (.tmp 36) (.tmp 37) rfl rfl rfl ?_; (focus ((repeat (first | (with_reducible refine IntE.drew ?_) | (exact IntE.new (by simp)) | (with_reducible refine IntE.alloc ?_ _))); done)); (focus ((repeat (first | with_reducible exact Below.refl wc.heap.size wc | (with_reducible refine Below.drew ?_) | (with_reducible refine Below.alloc ?_ (by first | omega | (simp; done) | (simp; omega)) _))); done)); intro AA cA wA HA KA; have a0 := (HA.out.2.cell (p := ⟨w.heap.size, 0, none⟩) hlw).trans x0; have a1 := (HA.out.2.cell (p := ⟨w.heap.size, 1, none⟩) hlw).trans x1; have a2 := (HA.out.2.cell (p := ⟨w.heap.size, 2, none⟩) hlw).trans x2; have szA := HA.out.2.size) | (refine q8B (W0 := wc) (b := wc.heap.size) (v := .slice AA bs.length cA) (bs := bs) (k := k) ?_ ?_ ?_ hl1000 rfl (.tmp 38) (.tmp 40) rfl rfl rfl ?_; (focus ((repeat (first | with_reducible exact HA.out.1 | (with_reducible refine World.ownsRow.drew ?_) | (with_reducible refine World.ownsRow.alloc ?_ _))); done)); (focus ((repeat (first | (with_reducible refine ArrIn.drew ?_) | (exact ArrIn.new (by simp)) | (with_reducible refine ArrIn.alloc ?_ _) | (refine KA _ _ ?_))); done)); (focus ((repeat (first | with_reducible exact HA.out.2 | (with_reducible refine Below.drew ?_) | (with_reducible refine Below.alloc ?_ (by first | omega | (simp; done) | (simp; omega)) _))); done)); intro AB cB wB HBr; have b0 := (HBr.out.2.cell (p := ⟨w.heap.size, 0, none⟩) hlw).trans x0; have b1 := (HBr.out.2.cell (p := ⟨w.heap.size, 1, none⟩) hlw).trans x1; have b2 := (HBr.out.2.cell (p := ⟨w.heap.size, 2, none⟩) hlw).trans x2; have szB := HBr.out.2.size) | (refine q8B (W0 := wc) (b := wc.heap.size + 1) (v := .slice AA bs.length cA) (bs := bs) (k := k) ?_ ?_ ?_ hl1000 rfl (.tmp 38) (.tmp 40) rfl rfl rfl ?_; (focus ((repeat (first | with_reducible exact HA.out.1 | (with_reducible refine World.ownsRow.drew ?_) | (with_reducible refine World.ownsRow.alloc ?_ _))); done)); (focus ((repeat (first | (with_reducible refine ArrIn.drew ?_) | (exact ArrIn.new (by simp)) | (with_reducible refine ArrIn.alloc ?_ _) | (refine KA _ _ ?_))); done)); (focus ((repeat (first | with_reducible exact HA.out.2 | (with_reducible refine Below.drew ?_) | (with_reducible refine Below.alloc ?_ (by first | omega | (simp; done) | (simp; omega)) _))); done)); intro AB cB wB HBr; have b0 := (HBr.out.2.cell (p := ⟨w.heap.size, 0, none⟩) hlw).trans x0; have b1 := (HBr.out.2.cell (p := ⟨w.heap.size, 1, none⟩) hlw).trans x1; have b2 := (HBr.out.2.cell (p := ⟨w.heap.size, 2, none⟩) hlw).trans x2; have szB := HBr.out.2.size) | (refine q8B (W0 := wc) (b := wA.heap.size) (v := .slice AA bs.length cA) (bs := bs) (k := k) ?_ ?_ ?_ hl1000 rfl (.tmp 38) (.tmp 40) rfl rfl rfl ?_; (focus ((repeat (first | with_reducible exact HA.out.1 | (with_reducible refine World.ownsRow.drew ?_) | (with_reducible refine World.ownsRow.alloc ?_ _))); done)); (focus ((repeat (first | (with_reducible refine ArrIn.drew ?_) | (exact ArrIn.new (by simp)) | (with_reducible refine ArrIn.alloc ?_ _) | (refine KA _ _ ?_))); done)); (focus ((repeat (first | with_reducible exact HA.out.2 | (with_reducible refine Below.drew ?_) | (with_reducible refine Below.alloc ?_ (by first | omega | (simp; done) | (simp; omega)) _))); done)); intro AB cB wB HBr; have b0 := (HBr.out.2.cell (p := ⟨w.heap.size, 0, none⟩) hlw).trans x0; have b1 := (HBr.out.2.cell (p := ⟨w.heap.size, 1, none⟩) hlw).trans x1; have b2 := (HBr.out.2.cell (p := ⟨w.heap.size, 2, none⟩) hlw).trans x2; have szB := HBr.out.2.size) | (go_at_call 29; refine (CI wB AB cB HBr.out.2 HBr.out.1).mono ?_; rintro e wC ⟨vC, rfl, hRC, hBC⟩; obtain ⟨AC, cC, rfl⟩ := hRC.sl; have HRC := Lib.hid hRC; have HBC := Lib.hid (HBr.out.2.trans (hBC.mono szB)); have hszC := HBC.out.size; have yc0 := (HBC.out.cell (p := ⟨w.heap.size, 0, none⟩) hlw).trans x0; have yc1 := (HBC.out.cell (p := ⟨w.heap.size, 1, none⟩) hlw).trans x1; have yc2 := (HBC.out.cell (p := ⟨w.heap.size, 2, none⟩) hlw).trans x2; clear hRC hBC) | (refine step_rows (w.heap.size + 1) wB.heap.size (v := .slice A5 (rowsTo d bs f k).length q5) (l := rowsTo d bs f k) (vm := .slice AC RL.length cC) (m := RL) ?_ HRC.out ?_ ?_ rfl (.tmp 34) (.tmp 42) rfl rfl rfl ?_; (focus exact HR2.out.below HBC.out); (focus exact hlen2); (focus omega); intro AD cD wD HD2; have d0 := (HD2.out.2.cell (p := ⟨w.heap.size, 0, none⟩) (Nat.lt_succ_self _)).trans yc0; have d1 := (HD2.out.2.cell (p := ⟨w.heap.size, 1, none⟩) (Nat.lt_succ_self _)).trans yc1; have d2 := (HD2.out.2.cell (p := ⟨w.heap.size, 2, none⟩) (Nat.lt_succ_self _)).trans yc2))
            all_goals
              have HBF : Hid (Below w.heap.size w wD) := (HB2.out.trans (HBC.out.mono HB2.out.size)).trans (HD2.out.2.mono (Nat.le_succ _))
              have HXF : Hid (wD.heap[w.heap.size]? = some (.cells #[.slice A1 n c1, .slice A2 n c2, .slice A3 d.forb.length c3] 25 (0, 0))) := (HD2.out.2.block _ (Nat.lt_succ_self _)).trans ((HBC.out.block _ hlw).trans HX2.out)
              have HRF : Hid (RowsW wD (w.heap.size + 1) (.slice AD (rowsTo d bs f k ++ RL).length cD) (rowsTo d bs f (k + 1))) := by rw [HRS.out]; exact HD2.out.1
              go_wp2_with fail
              go_roundw
              case rel => exact ⟨k + 1, by omega, by go_num, by simpa using HRF, HBF, HXF⟩
              case measure => simp [intOf]; omega
      · have hkk : ¬ (k : Int) < (n : Int) := by omega
        obtain rfl : n = k := by omega
        go_wp2_with fail
        go_ret
        refine ⟨u5, rfl, ?_, HB.out⟩
        have hr := HR.out.mono (Nat.le_succ _)
        unfold rowsTo at hr
        rw [HN.out.1] at hr
        rw [outs]
        exact hr
end Go.Proofs.Ytbkgkgigcohbpaa
