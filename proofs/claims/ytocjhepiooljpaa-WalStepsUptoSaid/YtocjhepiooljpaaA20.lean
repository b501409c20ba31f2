/- Sync of package wal, where nothing speaks against it. -/
import Derived.Test.YtocjhepiooljpaaZy
import Derived.Test.YtocjhepiooljpaaA17
import Derived.Test.YtocjhepiooljpaaZl
namespace Go.Proofs.Ytocjhepiooljpaa
open Go.RowKit Go.Deep Go.Shelf

theorem slice0 {A : Option Addr} {c : Nat} : (if c = 0 then A else Option.map (fun x => x.add 0) A) = A := by
  split
  · rfl
  · cases A with
    | none => rfl
    | some ad => simp [Addr.add]
theorem BytesC.takeN {w : World} {M : Nat → Prop} {A : Option Addr} {bs : List UInt8} (h : BytesC w M A bs) (n : Nat) : BytesC w M A (bs.take n) := fun h0 => by
  have hl : (bs.take n).length = min n bs.length := List.length_take
  obtain ⟨b, off, e, hb, hx⟩ := h (by omega)
  refine ⟨b, off, e, hb, fun i t hi ht => ?_⟩
  have := hx i t (by omega) ht
  rw [this]
  show some (byt _) = some (byt _)
  rw [List.getD_eq_getElem?_getD, List.getD_eq_getElem?_getD, List.getElem?_take_of_lt (by omega)]
theorem BytesC.dropN {w : World} {M : Nat → Prop} {A : Option Addr} {bs : List UInt8} (h : BytesC w M A bs) {c k : Nat} (hc : bs.length ≤ c) : BytesC w M (if c = k then A else Option.map (fun x => x.add k) A) (bs.drop k) := fun h0 => by
  rw [List.length_drop] at h0
  obtain ⟨b, off, e, hb, hx⟩ := h (by omega)
  subst e
  rw [if_neg (by omega)]
  refine ⟨b, off + k, by simp [Addr.add], hb, fun i t hi ht => ?_⟩
  rw [List.length_drop] at hi
  have := hx (k + i) t (by omega) ht
  rw [show off + (k + i) * 1 + t = off + k + i * 1 + t by omega] at this
  rw [this]
  show some (byt _) = some (byt _)
  rw [List.getD_eq_getElem?_getD, List.getD_eq_getElem?_getD, List.getElem?_drop]
/-- the write of one sector, as package wal does it -/
theorem next_writeW {d : DiskD} {t0 g i j : Nat} {S new : List (List UInt8)} (hok : okB d = true) (hst : d.stopped = false) (hp : d.pending = []) (hS : S = recsW g t0 new) (hi : i < new.length) (hj : j < secs (new[i]).length) (hl : t0 + (used (new.take i) + j) ≤ d.sectors.length) :
    writeD (wroteOr d t0 (S.take (used (new.take i) + j))) ((t0 + (used (new.take i) + j) : Nat) : Int) (secOf g (t0 + (used (new.take i) + j)) (kindOf j (secs (new[i]).length)) (pieceOf new[i] j)) = (wroteOr d t0 (S.take (used (new.take i) + (j + 1))), if t0 + (used (new.take i) + j) < d.sectors.length then 0 else 340) := by
  have h9 := okB_sized hok
  have := next_write (z := ((t0 + (used (new.take i) + j) : Nat) : Int)) (be := decide (j = 0)) (en := decide (j + 1 = secs (new[i]).length)) hok hst hp hS hi hj (fun _ => rfl) rfl rfl
  rw [kindB_of j _ rfl rfl, show (IntKind.u64.wrap ((t0 + (used (new.take i) + j) : Nat) : Int)).toNat = t0 + (used (new.take i) + j) by rw [IntKind.wrap_u64]; omega] at this
  exact this
theorem wrote_no {d : DiskD} {t0 g : Nat} {S new : List (List UInt8)} (hS : S = recsW g t0 new) (h : d.sectors.length < t0 + used new) : wroteOr d t0 S = zeroD := by
  unfold wroteOr
  rw [hS, recsW_length, if_neg (by omega)]
theorem drop_at {rs : List (List UInt8)} {sy k : Nat} (h : sy + k < rs.length) : ∃ h', (rs.drop sy)[k]'h' = rs[sy + k] := ⟨by rw [List.length_drop]; omega, by rw [List.getElem_drop]⟩
theorem used_takes_le (rs : List (List UInt8)) (k : Nat) : used (rs.take k) ≤ used rs := by
  have h2 : used rs = used (rs.take k) + used (rs.drop k) := by rw [← used_append, List.take_append_drop]
  omega

set_option maxRecDepth 20000 in
set_option maxHeartbeats 4000000 in
theorem sync_go (w : World) (M : Nat → Prop) (l : LogD) (lv : Value) (hL : IsLog w M lv l) (hf : FitR l.recs) (hlok : okL l = true) (d : DiskD) (v : Value) (h : IsDisk w M v d) (hok : okB d = true) (hst : d.stopped = false) (hm : l.many = d.sectors.length) (hp : d.pending = []) :
    Calls Try.prog 21 #[lv, v] w (RetSync w M (syncL l d)) := by
  obtain ⟨sy, hsy, hsyl⟩ : ∃ sy : Nat, l.synced = (sy : Int) ∧ sy ≤ l.recs.length := by
    unfold okL at hlok
    simp only [Bool.and_eq_true, decide_eq_true_eq] at hlok
    exact ⟨l.synced.toNat, by omega, by omega⟩
  have HSP := Lib.hid (syncL_go hlok hok hst hm hp hsy)
  have hck : chkL l = 0 := by simp [chkL, hlok]
  obtain ⟨rv, rfl, rA, rc, rfl, hr1, hr2, hr3⟩ := id hL
  obtain ⟨sA, sc, pA, pc, rfl, hs1, hs2, hs3, hp1, hp2, hp3⟩ := h.parts
  obtain ⟨W1, hW1⟩ : ∃ W1, W1 = (((w.alloc (.cells #[.int .i64 l.many, .slice rA l.recs.length rc, .int .i64 l.synced] 29)).alloc (.cells #[.slice sA d.sectors.length sc, .slice pA d.pending.length pc, .int .i64 d.left, .bool d.stopped] 25)).alloc (.cells #[.int .i64 0, .slice none 0 0, .int .i64 0] 29)).alloc (.cells #[.slice none 0 0, .slice none 0 0, .int .i64 0, .bool false] 25) := ⟨_, rfl⟩
  have hB1 : Below w.heap.size w W1 := by rw [hW1]; exact ((((Below.refl w.heap.size w).alloc (Nat.le_refl _) _).alloc (by simp) _).alloc (by simp; omega) _).alloc (by simp; omega) _
  have hz : W1.heap.size = w.heap.size + 4 := by rw [hW1]; simp
  have hS1 : SyS w M l.many rA rc sy l.recs (.slice sA d.sectors.length sc) (.slice pA d.pending.length pc) (.int .i64 d.left) (.bool d.stopped) d W1 := by
    refine ⟨?_, ?_, ?_, ?_, hB1, by omega, (h.mono (M' := Bx M w.heap.size 4) fun b hb hM => .inl ⟨hM, hb⟩).below hB1, (hr3.mono (M' := Bx M w.heap.size 4) fun b hb hM => .inl ⟨hM, hb⟩).keep fun _ _ hp => hB1.cell hp⟩
    all_goals ((try rw [← hsy]); rw [hW1]; simp only [heap_alloc_if, World.size_alloc]; repeat (first | rw [if_pos trivial] | rw [if_pos (by omega)] | rw [if_neg (by omega)]))
  have C := Lib.hid (lcheck_any W1 M l _ hf (hL.below hB1))
  rw [hck] at C
  have CD := Lib.hid fun (W : World) (hB : Below w.heap.size w W) => check_any W M d _ (h.below hB)
  rw [chk_of hok] at CD
  have HS1 := Lib.hid hS1
  have HW := Lib.hid hW1
  obtain ⟨hl4096, hsz128⟩ := okB_sized hok
  have hp0 : d.pending.length = 0 := by rw [hp]; rfl
  have hm1 : (l.many != (d.sectors.length : Int)) = false := by rw [bne_eq_false_iff_eq]; exact hm
  have HOK := Lib.hid hok
  have HST := Lib.hid hst
  have HM := Lib.hid hm
  have HP := Lib.hid hp
  have HLOK := Lib.hid hlok
  have HSZ := Lib.hid hsz128
  have HF := Lib.hid hf
  have HSY := Lib.hid hsy
  have HP0 := Lib.hid hp0
  clear hB1 hz hS1 hlok hok hm hp hst hp0 hsz128 hf hL h hr3 hs3 hp3 hck hsy
  go_enter Try.func21, Try.ntmps21
  go_wp2_with fail
  rw [← HW.out]
  clear hW1 HW
  refine C.out.mono ?_
  rintro e w1 ⟨rfl, hb1⟩
  have HS2 := Lib.hid (HS1.out.next hb1)
  clear hb1
  obtain ⟨⟨a0, a1, a2⟩, c0, c1, c2, c3⟩ := HS2.out.cells
  go_wp2_with fail
  refine (CD.out _ HS2.out.below).mono ?_
  rintro e w2 ⟨rfl, hb2⟩
  have HS3 := Lib.hid (HS2.out.next hb2)
  clear hb2 a0 a1 a2 c0 c1 c2 c3
  obtain ⟨⟨a0, a1, a2⟩, c0, c1, c2, c3⟩ := HS3.out.cells
  rw [HST.out] at c3
  rw [HP0.out] at c1
  have CO := Lib.hid (open_any w2 _ d _ HS3.out.disk)
  rw [show openL d = (⟨d.sectors.length, recs d.sectors, (recs d.sectors).length⟩, 0) by unfold openL; rw [if_pos HOK.out, HST.out, if_neg (by simp), if_neg (by rw [HP.out]; simp)]] at CO
  rw [HST.out, HP0.out] at CO
  go_upto_region 12 with (go_at_call 12; refine CO.out.mono ?_; rintro e w5 ⟨v5, rfl, ⟨rv5, rfl, nA, nc, rfl, hn1, hn2, hn3⟩, hb5⟩; have HS5 := Lib.hid (HS3.out.next hb5); have HN5 := Lib.hid hn3; clear hb5 hn3)
  obtain ⟨W6, hW6⟩ : ∃ W6, W6 = w5.alloc (.cells #[.int .i64 d.sectors.length, .slice nA (recs d.sectors).length nc, .int .i64 (recs d.sectors).length] 29) := ⟨_, rfl⟩
  have hB6 : Below w5.heap.size w5 W6 := by rw [hW6]; exact (Below.refl _ _).alloc (Nat.le_refl _) _
  have HS6 := Lib.hid (HS5.out.next hB6)
  have HN6 := Lib.hid (HN5.out.keep fun p _ hp => hB6.cell hp)
  have HX6 := Lib.hid (show W6.heap[w5.heap.size]? = some (.cells #[.int .i64 d.sectors.length, .slice nA (recs d.sectors).length nc, .int .i64 (recs d.sectors).length] 29 (0, 0)) by rw [hW6]; exact heap_alloc_new _ _)
  rw [← hW6]
  clear hW6 hB6 HN5 a0 a1 a2 c0 c1 c2 c3 CO CD C
  obtain ⟨⟨a0, a1, a2⟩, c0, c1, c2, c3⟩ := HS6.out.cells
  rw [HST.out] at c3
  rw [HP0.out] at c1
  obtain ⟨⟨n0, n1, n2⟩, -⟩ := blk3 (Below.refl _ _) HX6.out (lt_heap HX6.out)
  obtain ⟨sv, pv, hdv, hmt, -⟩ := HS6.out.disk
  simp only [Value.agg.injEq, Array.mk.injEq, List.cons.injEq, and_true] at hdv
  obtain ⟨rfl, -⟩ := hdv
  obtain ⟨sA', sc', hsv, -, -, hmc⟩ := hmt
  cases hsv
  have HMC := Lib.hid hmc
  have CN := fun W M A c bs hl h => Lib.hid (get_any W M A c bs hl h)
  clear hmc
  go_wp2_with fail
  go_loopw [10, 59] (fun n i wr => ∃ k x : Nat, k ≤ d.sectors.length ∧ i = .int .i64 (k : Int) ∧ n = .int .u64 (x : Int) ∧ x < 4294967297 ∧ Hid (x = genMax (d.sectors.take k) + 1) ∧ Hid (wr = W6)) (fun _ i _ => d.sectors.length - (intOf i).toNat)
  case atStart => exact ⟨0, 1, Nat.zero_le _, rfl, rfl, by omega, Lib.hid rfl, Lib.hid rfl⟩
  case round =>
    obtain ⟨k, x, hk, rfl, rfl, hx32, HX, HB⟩ := hrel
    by_cases hlt : k < d.sectors.length
    · obtain ⟨q, off, bA, bc, rfl, hbl, hck, hb1, hb2, hb3⟩ := HMC.out.at_ (same_below HB.out) hlt
      have hsz := HSZ.out _ (List.getElem_mem hlt)
      obtain ⟨qb, offb, rfl, -, -, -⟩ := hb3.at_ (Below.refl _ _) (show 0 < (d.sectors[k]).length by omega)
      have C1 := CN wr _ (some ⟨qb, offb, none⟩) bc ((d.sectors[k]).take 4) (by rw [List.length_take]; omega) ((BytesC.part hb3 0 4 (by omega)).below (same_below HB.out))
      rw [show ((d.sectors[k]).take 4).length = 4 by rw [List.length_take]; omega, show num ((d.sectors[k]).take 4) = genS d.sectors[k] from rfl] at C1
      rw [hsz] at hck hb1
      obtain ⟨g, hg⟩ : ∃ g, g = genS d.sectors[k] := ⟨_, rfl⟩
      have hg32 : g < 4294967296 := by rw [hg]; exact genS_lt _
      rw [← hg] at C1
      have HX2 := Lib.hid (show max x (g + 1) = genMax (d.sectors.take (k + 1)) + 1 by rw [genMax_snoc _ _ hlt, HX.out, hg]; omega)
      have hk0 : (0 : Int) ≤ (k : Int) := by omega
      have hk1 : (k : Int) < (d.sectors.length : Int) := by omega
      have hbc4 : ¬ (bc : Int) < 4 := by omega
      have hbc0 : ¬ bc = 0 := by omega
      clear hb3 hg hsz
      go_wp2_with (go_at_call 41; refine C1.out.mono ?_; rintro e w2 ⟨rfl, rfl⟩)
      go_roundw
      case rel => exact ⟨k + 1, max x (g + 1), by omega, rfl, by split <;> (congr 1; omega), by omega, HX2, HB⟩
      case measure => simp [intOf]; omega
    · obtain rfl : wr = W6 := HB.out
      obtain rfl : k = d.sectors.length := by omega
      rw [List.take_length] at HX
      have HG := HX
      obtain ⟨g, rfl⟩ : ∃ g, g = x := ⟨_, rfl⟩
      clear HB HX
      go_upto_region 18 with fail
      go_cut [83] (fun c W => c = .bool (!decide (recs d.sectors = l.recs.take sy) || decide (4294967296 ≤ g)) ∧ Hid (Below wr.heap.size wr W))
      case first =>
        have CQ := Lib.hid fun (W : World) (hB : Below wr.heap.size wr W) => equalFunc_any W (fun b => w2.heap.size ≤ b) _ (recs d.sectors) (l.recs.take sy) (.slice nA (recs d.sectors).length nc) (.slice rA sy rc) (by have := recs_len HSZ.out; omega) (by have := HF.out.len; rw [List.length_take]; omega) ⟨nA, nc, rfl, hn1, hn2, HN6.out.keep fun _ _ hp => hB.cell hp⟩ ⟨rA, rc, by rw [List.length_take, Nat.min_eq_left hsyl], by rw [List.length_take]; omega, hr2, (HS6.out.next hB).mat.take sy⟩
        obtain ⟨z, hz⟩ : ∃ z, z = decide (recs d.sectors = l.recs.take sy) := ⟨_, rfl⟩
        rw [← hz] at CQ
        have HZ := Lib.hid hz
        have HC := Lib.hid fun (W : World) (hW : Below wr.heap.size wr W) => And.intro (show W.cell? ⟨w5.heap.size, 1, none⟩ = some (.slice nA (recs d.sectors).length nc) from (hW.cell (p := ⟨w5.heap.size, 1, none⟩) (lt_heap HX6.out)).trans n1) (And.intro (show W.cell? ⟨w.heap.size, 1, none⟩ = some (.slice rA l.recs.length rc) from (HS6.out.next hW).cells.1.2.1) (show W.cell? ⟨w.heap.size, 2, none⟩ = some (.int .i64 (sy : Int)) from (HS6.out.next hW).cells.1.2.2))
        have hsc1 : (sy : Int) ≤ (rc : Int) := by omega
        have hsc2 : ¬ (rc : Int) < (sy : Int) := by omega
        have hsc0 : (0 : Int) ≤ (sy : Int) := by omega
        have hsc3 : sy ≤ rc := by omega
        clear hz
        rcases rA with _ | ⟨rb, ro, rp⟩
        · skip
          refine wp_region_held_drew (S := fun w' => w'.cell? ⟨w5.heap.size, 1, none⟩ = some (.slice nA (recs d.sectors).length nc) ∧ w'.cell? ⟨w.heap.size, 1, none⟩ = some (.slice none l.recs.length rc) ∧ w'.cell? ⟨w.heap.size, 2, none⟩ = some (.int .i64 (sy : Int))) (by kernel_rfl) ⟨n1, a1, a2⟩ (fun hHeld => ?_)
          change wpAnyH _ _ _ _ _ 14 #[false, false, false, false, false, false, false, false, false, false, false, false, false, false] _ wr.drew
          refine takeD (i := 0) (d := some 70) (v := ?_) rfl rfl (by kernel_rfl) (by kernel_rfl) (by kernel_rfl) (fun _ _ _ h => h) (Or.inl ⟨by rfl, ?_⟩) hHeld ?_
          rotate_left 1
          focus (intro w hSw; (try dsimp only at hSw); go_simp; (try with_reducible rfl))
          (repeat (first | simp only [Act.put] | simp only [List.setIfInBounds_toArray] | simp only [List.set_cons_zero] | simp only [List.set_cons_succ]))
          refine takeD (i := 1) (d := some 71) (v := ?_) rfl rfl (by kernel_rfl) (by kernel_rfl) (by kernel_rfl) (fun _ _ _ h => h) (Or.inl ⟨by rfl, ?_⟩) hHeld ?_
          rotate_left 1
          focus (intro w hSw; (try dsimp only at hSw); go_simp; (try with_reducible rfl))
          (repeat (first | simp only [Act.put] | simp only [List.setIfInBounds_toArray] | simp only [List.set_cons_zero] | simp only [List.set_cons_succ]))
          refine takeD (i := 2) (d := some 72) (v := ?_) rfl rfl (by kernel_rfl) (by kernel_rfl) (by kernel_rfl) (fun _ _ _ h => h) (Or.inl ⟨by rfl, ?_⟩) hHeld ?_
          rotate_left 1
          focus (intro w hSw; (try dsimp only at hSw); go_simp; (try with_reducible rfl))
          (repeat (first | simp only [Act.put] | simp only [List.setIfInBounds_toArray] | simp only [List.set_cons_zero] | simp only [List.set_cons_succ]))
          refine takeD (i := 3) (d := some 73) (v := ?_) rfl rfl (by kernel_rfl) (by kernel_rfl) (by kernel_rfl) (fun _ _ _ h => h) (Or.inl ⟨by rfl, ?_⟩) hHeld ?_
          rotate_left 1
          focus (intro w hSw; (try dsimp only at hSw); go_simp; (try with_reducible rfl))
          (repeat (first | simp only [Act.put] | simp only [List.setIfInBounds_toArray] | simp only [List.set_cons_zero] | simp only [List.set_cons_succ]))
          refine takeD (i := 4) (d := some 74) (v := ?_) rfl rfl (by kernel_rfl) (by kernel_rfl) (by kernel_rfl) (fun _ _ _ h => h) (Or.inl ⟨by rfl, ?_⟩) hHeld ?_
          rotate_left 1
          focus (intro w hSw; (try dsimp only at hSw); go_simp; (try with_reducible rfl))
          (repeat (first | simp only [Act.put] | simp only [List.setIfInBounds_toArray] | simp only [List.set_cons_zero] | simp only [List.set_cons_succ]))
          refine takeD (i := 5) (d := some 75) (v := ?_) rfl rfl (by kernel_rfl) (by kernel_rfl) (by kernel_rfl) (fun _ _ _ h => h) (Or.inl ⟨by rfl, ?_⟩) hHeld ?_
          rotate_left 1
          focus (intro w hSw; (try dsimp only at hSw); go_simp; (try with_reducible rfl))
          (repeat (first | simp only [Act.put] | simp only [List.setIfInBounds_toArray] | simp only [List.set_cons_zero] | simp only [List.set_cons_succ]))
          refine takeD (i := 6) (d := some 76) (v := ?_) rfl rfl (by kernel_rfl) (by kernel_rfl) (by kernel_rfl) (fun _ _ _ h => h) (Or.inl ⟨by rfl, ?_⟩) hHeld ?_
          rotate_left 1
          focus (intro w hSw; (try dsimp only at hSw); go_simp; (try with_reducible rfl))
          (repeat (first | simp only [Act.put] | simp only [List.setIfInBounds_toArray] | simp only [List.set_cons_zero] | simp only [List.set_cons_succ]))
          refine wpAnyH_ready (rs := [7]) (by kernel_rfl) (by simp) ?_
          refine AllReadyH.cons rfl (fun K hK => ?_) AllReadyH.nil
          go_simp
          go_at_call 42
          refine (CQ.out _ (by repeat (first | with_reducible exact Below.refl _ _ | (with_reducible refine Below.drew ?_) | (with_reducible refine belowN ?_ _)))).mono ?_
          rintro e w8 ⟨rfl, rfl⟩
          refine hK.out _ _ (HC.out _ (by repeat (first | with_reducible exact Below.refl _ _ | (with_reducible refine Below.drew ?_) | (with_reducible refine belowN ?_ _)))) (fun hHeld => ?_)
          clear hK K
          (repeat (first | simp only [Act.put] | simp only [List.setIfInBounds_toArray] | simp only [List.set_cons_zero] | simp only [List.set_cons_succ]))
          cases z
          · skip
            refine takeD (i := 8) (d := some 78) (v := ?_) rfl rfl (by kernel_rfl) (by kernel_rfl) (by kernel_rfl) (fun _ _ _ h => h) (Or.inl ⟨by rfl, ?_⟩) hHeld ?_
            rotate_left 1
            focus (intro w hSw; (try dsimp only at hSw); go_simp; (try with_reducible rfl))
            (repeat (first | simp only [Act.put] | simp only [List.setIfInBounds_toArray] | simp only [List.set_cons_zero] | simp only [List.set_cons_succ]))
            refine takeD (i := 9) (d := some 79) (v := ?_) rfl rfl (by kernel_rfl) (by kernel_rfl) (by kernel_rfl) (fun _ _ _ h => h) (Or.inl ⟨by rfl, ?_⟩) hHeld ?_
            rotate_left 1
            focus (intro w hSw; (try dsimp only at hSw); go_simp; (try with_reducible rfl))
            (repeat (first | simp only [Act.put] | simp only [List.setIfInBounds_toArray] | simp only [List.set_cons_zero] | simp only [List.set_cons_succ]))
            refine takeD (i := 10) (d := some 80) (v := undef) rfl rfl (by kernel_rfl) (by kernel_rfl) (by kernel_rfl) (fun _ _ _ h => h) (Or.inr ⟨by rfl, rfl⟩) hHeld ?_
            (repeat (first | simp only [Act.put] | simp only [List.setIfInBounds_toArray] | simp only [List.set_cons_zero] | simp only [List.set_cons_succ]))
            refine takeD (i := 11) (d := some 81) (v := undef) rfl rfl (by kernel_rfl) (by kernel_rfl) (by kernel_rfl) (fun _ _ _ h => h) (Or.inr ⟨by rfl, rfl⟩) hHeld ?_
            (repeat (first | simp only [Act.put] | simp only [List.setIfInBounds_toArray] | simp only [List.set_cons_zero] | simp only [List.set_cons_succ]))
            refine takeD (i := 12) (d := some 82) (v := undef) rfl rfl (by kernel_rfl) (by kernel_rfl) (by kernel_rfl) (fun _ _ _ h => h) (Or.inr ⟨by rfl, rfl⟩) hHeld ?_
            (repeat (first | simp only [Act.put] | simp only [List.setIfInBounds_toArray] | simp only [List.set_cons_zero] | simp only [List.set_cons_succ]))
            refine takeD (i := 13) (d := some 83) (v := ?_) rfl rfl (by kernel_rfl) (by kernel_rfl) (by kernel_rfl) (fun _ _ _ h => h) (Or.inl ⟨by rfl, ?_⟩) hHeld ?_
            rotate_left 1
            focus (intro w hSw; (try dsimp only at hSw); go_simp; (try with_reducible rfl))
            (repeat (first | simp only [Act.put] | simp only [List.setIfInBounds_toArray] | simp only [List.set_cons_zero] | simp only [List.set_cons_succ]))
            refine wpAnyH_done (by kernel_rfl) ?_ _
            go_wp2_with fail
            go_meet
            case rel => exact ⟨congrArg Value.bool (by rw [← HZ.out]; rfl), Lib.hid (by repeat (first | with_reducible exact Below.refl _ _ | (with_reducible refine Below.drew ?_) | (with_reducible refine belowN ?_ _)))⟩
          · skip
            refine takeD (i := 8) (d := some 78) (v := ?_) rfl rfl (by kernel_rfl) (by kernel_rfl) (by kernel_rfl) (fun _ _ _ h => h) (Or.inl ⟨by rfl, ?_⟩) hHeld ?_
            rotate_left 1
            focus (intro w hSw; (try dsimp only at hSw); go_simp; (try with_reducible rfl))
            (repeat (first | simp only [Act.put] | simp only [List.setIfInBounds_toArray] | simp only [List.set_cons_zero] | simp only [List.set_cons_succ]))
            refine takeD (i := 9) (d := some 79) (v := ?_) rfl rfl (by kernel_rfl) (by kernel_rfl) (by kernel_rfl) (fun _ _ _ h => h) (Or.inl ⟨by rfl, ?_⟩) hHeld ?_
            rotate_left 1
            focus (intro w hSw; (try dsimp only at hSw); go_simp; (try with_reducible rfl))
            (repeat (first | simp only [Act.put] | simp only [List.setIfInBounds_toArray] | simp only [List.set_cons_zero] | simp only [List.set_cons_succ]))
            refine takeD (i := 10) (d := some 80) (v := ?_) rfl rfl (by kernel_rfl) (by kernel_rfl) (by kernel_rfl) (fun _ _ _ h => h) (Or.inl ⟨by rfl, ?_⟩) hHeld ?_
            rotate_left 1
            focus (intro w hSw; (try dsimp only at hSw); go_simp; (try with_reducible rfl))
            (repeat (first | simp only [Act.put] | simp only [List.setIfInBounds_toArray] | simp only [List.set_cons_zero] | simp only [List.set_cons_succ]))
            refine takeD (i := 11) (d := some 81) (v := ?_) rfl rfl (by kernel_rfl) (by kernel_rfl) (by kernel_rfl) (fun _ _ _ h => h) (Or.inl ⟨by rfl, ?_⟩) hHeld ?_
            rotate_left 1
            focus (intro w hSw; (try dsimp only at hSw); go_simp; (try with_reducible rfl))
            (repeat (first | simp only [Act.put] | simp only [List.setIfInBounds_toArray] | simp only [List.set_cons_zero] | simp only [List.set_cons_succ]))
            refine takeD (i := 12) (d := some 82) (v := ?_) rfl rfl (by kernel_rfl) (by kernel_rfl) (by kernel_rfl) (fun _ _ _ h => h) (Or.inl ⟨by rfl, ?_⟩) hHeld ?_
            rotate_left 1
            focus (intro w hSw; (try dsimp only at hSw); go_simp; (try with_reducible rfl))
            (repeat (first | simp only [Act.put] | simp only [List.setIfInBounds_toArray] | simp only [List.set_cons_zero] | simp only [List.set_cons_succ]))
            refine takeD (i := 13) (d := some 83) (v := ?_) rfl rfl (by kernel_rfl) (by kernel_rfl) (by kernel_rfl) (fun _ _ _ h => h) (Or.inl ⟨by rfl, ?_⟩) hHeld ?_
            rotate_left 1
            focus (intro w hSw; (try dsimp only at hSw); go_simp; (try with_reducible rfl))
            (repeat (first | simp only [Act.put] | simp only [List.setIfInBounds_toArray] | simp only [List.set_cons_zero] | simp only [List.set_cons_succ]))
            refine wpAnyH_done (by kernel_rfl) ?_ _
            go_wp2_with fail
            go_meet
            case rel => exact ⟨congrArg Value.bool (by rw [← HZ.out, Bool.not_true, Bool.false_or]; rw [Bool.eq_iff_iff]; simp; omega), Lib.hid (by repeat (first | with_reducible exact Below.refl _ _ | (with_reducible refine Below.drew ?_) | (with_reducible refine belowN ?_ _)))⟩
        · skip
          refine wp_region_held_drew (S := fun w' => w'.cell? ⟨w5.heap.size, 1, none⟩ = some (.slice nA (recs d.sectors).length nc) ∧ w'.cell? ⟨w.heap.size, 1, none⟩ = some (.slice (some ⟨rb, ro, rp⟩) l.recs.length rc) ∧ w'.cell? ⟨w.heap.size, 2, none⟩ = some (.int .i64 (sy : Int))) (by kernel_rfl) ⟨n1, a1, a2⟩ (fun hHeld => ?_)
          change wpAnyH _ _ _ _ _ 14 #[false, false, false, false, false, false, false, false, false, false, false, false, false, false] _ wr.drew
          refine takeD (i := 0) (d := some 70) (v := ?_) rfl rfl (by kernel_rfl) (by kernel_rfl) (by kernel_rfl) (fun _ _ _ h => h) (Or.inl ⟨by rfl, ?_⟩) hHeld ?_
          rotate_left 1
          focus (intro w hSw; (try dsimp only at hSw); go_simp; (try with_reducible rfl))
          (repeat (first | simp only [Act.put] | simp only [List.setIfInBounds_toArray] | simp only [List.set_cons_zero] | simp only [List.set_cons_succ]))
          refine takeD (i := 1) (d := some 71) (v := ?_) rfl rfl (by kernel_rfl) (by kernel_rfl) (by kernel_rfl) (fun _ _ _ h => h) (Or.inl ⟨by rfl, ?_⟩) hHeld ?_
          rotate_left 1
          focus (intro w hSw; (try dsimp only at hSw); go_simp; (try with_reducible rfl))
          (repeat (first | simp only [Act.put] | simp only [List.setIfInBounds_toArray] | simp only [List.set_cons_zero] | simp only [List.set_cons_succ]))
          refine takeD (i := 2) (d := some 72) (v := ?_) rfl rfl (by kernel_rfl) (by kernel_rfl) (by kernel_rfl) (fun _ _ _ h => h) (Or.inl ⟨by rfl, ?_⟩) hHeld ?_
          rotate_left 1
          focus (intro w hSw; (try dsimp only at hSw); go_simp; (try with_reducible rfl))
          (repeat (first | simp only [Act.put] | simp only [List.setIfInBounds_toArray] | simp only [List.set_cons_zero] | simp only [List.set_cons_succ]))
          refine takeD (i := 3) (d := some 73) (v := ?_) rfl rfl (by kernel_rfl) (by kernel_rfl) (by kernel_rfl) (fun _ _ _ h => h) (Or.inl ⟨by rfl, ?_⟩) hHeld ?_
          rotate_left 1
          focus (intro w hSw; (try dsimp only at hSw); go_simp; (try with_reducible rfl))
          (repeat (first | simp only [Act.put] | simp only [List.setIfInBounds_toArray] | simp only [List.set_cons_zero] | simp only [List.set_cons_succ]))
          refine takeD (i := 4) (d := some 74) (v := ?_) rfl rfl (by kernel_rfl) (by kernel_rfl) (by kernel_rfl) (fun _ _ _ h => h) (Or.inl ⟨by rfl, ?_⟩) hHeld ?_
          rotate_left 1
          focus (intro w hSw; (try dsimp only at hSw); go_simp; (try with_reducible rfl))
          (repeat (first | simp only [Act.put] | simp only [List.setIfInBounds_toArray] | simp only [List.set_cons_zero] | simp only [List.set_cons_succ]))
          refine takeD (i := 5) (d := some 75) (v := ?_) rfl rfl (by kernel_rfl) (by kernel_rfl) (by kernel_rfl) (fun _ _ _ h => h) (Or.inl ⟨by rfl, ?_⟩) hHeld ?_
          rotate_left 1
          focus (intro w hSw; (try dsimp only at hSw); go_simp; (try with_reducible rfl))
          (repeat (first | simp only [Act.put] | simp only [List.setIfInBounds_toArray] | simp only [List.set_cons_zero] | simp only [List.set_cons_succ]))
          refine takeD (i := 6) (d := some 76) (v := ?_) rfl rfl (by kernel_rfl) (by kernel_rfl) (by kernel_rfl) (fun _ _ _ h => h) (Or.inl ⟨by rfl, ?_⟩) hHeld ?_
          rotate_left 1
          focus (intro w hSw; (try dsimp only at hSw); go_simp; (try with_reducible rfl))
          (repeat (first | simp only [Act.put] | simp only [List.setIfInBounds_toArray] | simp only [List.set_cons_zero] | simp only [List.set_cons_succ]))
          refine wpAnyH_ready (rs := [7]) (by kernel_rfl) (by simp) ?_
          refine AllReadyH.cons rfl (fun K hK => ?_) AllReadyH.nil
          go_simp
          go_at_call 42
          refine (CQ.out _ (by repeat (first | with_reducible exact Below.refl _ _ | (with_reducible refine Below.drew ?_) | (with_reducible refine belowN ?_ _)))).mono ?_
          rintro e w8 ⟨rfl, rfl⟩
          refine hK.out _ _ (HC.out _ (by repeat (first | with_reducible exact Below.refl _ _ | (with_reducible refine Below.drew ?_) | (with_reducible refine belowN ?_ _)))) (fun hHeld => ?_)
          clear hK K
          (repeat (first | simp only [Act.put] | simp only [List.setIfInBounds_toArray] | simp only [List.set_cons_zero] | simp only [List.set_cons_succ]))
          cases z
          · skip
            refine takeD (i := 8) (d := some 78) (v := ?_) rfl rfl (by kernel_rfl) (by kernel_rfl) (by kernel_rfl) (fun _ _ _ h => h) (Or.inl ⟨by rfl, ?_⟩) hHeld ?_
            rotate_left 1
            focus (intro w hSw; (try dsimp only at hSw); go_simp; (try with_reducible rfl))
            (repeat (first | simp only [Act.put] | simp only [List.setIfInBounds_toArray] | simp only [List.set_cons_zero] | simp only [List.set_cons_succ]))
            refine takeD (i := 9) (d := some 79) (v := ?_) rfl rfl (by kernel_rfl) (by kernel_rfl) (by kernel_rfl) (fun _ _ _ h => h) (Or.inl ⟨by rfl, ?_⟩) hHeld ?_
            rotate_left 1
            focus (intro w hSw; (try dsimp only at hSw); go_simp; (try with_reducible rfl))
            (repeat (first | simp only [Act.put] | simp only [List.setIfInBounds_toArray] | simp only [List.set_cons_zero] | simp only [List.set_cons_succ]))
            refine takeD (i := 10) (d := some 80) (v := undef) rfl rfl (by kernel_rfl) (by kernel_rfl) (by kernel_rfl) (fun _ _ _ h => h) (Or.inr ⟨by rfl, rfl⟩) hHeld ?_
            (repeat (first | simp only [Act.put] | simp only [List.setIfInBounds_toArray] | simp only [List.set_cons_zero] | simp only [List.set_cons_succ]))
            refine takeD (i := 11) (d := some 81) (v := undef) rfl rfl (by kernel_rfl) (by kernel_rfl) (by kernel_rfl) (fun _ _ _ h => h) (Or.inr ⟨by rfl, rfl⟩) hHeld ?_
            (repeat (first | simp only [Act.put] | simp only [List.setIfInBounds_toArray] | simp only [List.set_cons_zero] | simp only [List.set_cons_succ]))
            refine takeD (i := 12) (d := some 82) (v := undef) rfl rfl (by kernel_rfl) (by kernel_rfl) (by kernel_rfl) (fun _ _ _ h => h) (Or.inr ⟨by rfl, rfl⟩) hHeld ?_
            (repeat (first | simp only [Act.put] | simp only [List.setIfInBounds_toArray] | simp only [List.set_cons_zero] | simp only [List.set_cons_succ]))
            refine takeD (i := 13) (d := some 83) (v := ?_) rfl rfl (by kernel_rfl) (by kernel_rfl) (by kernel_rfl) (fun _ _ _ h => h) (Or.inl ⟨by rfl, ?_⟩) hHeld ?_
            rotate_left 1
            focus (intro w hSw; (try dsimp only at hSw); go_simp; (try with_reducible rfl))
            (repeat (first | simp only [Act.put] | simp only [List.setIfInBounds_toArray] | simp only [List.set_cons_zero] | simp only [List.set_cons_succ]))
            refine wpAnyH_done (by kernel_rfl) ?_ _
            go_wp2_with fail
            go_meet
            case rel => exact ⟨congrArg Value.bool (by rw [← HZ.out]; rfl), Lib.hid (by repeat (first | with_reducible exact Below.refl _ _ | (with_reducible refine Below.drew ?_) | (with_reducible refine belowN ?_ _)))⟩
          · skip
            refine takeD (i := 8) (d := some 78) (v := ?_) rfl rfl (by kernel_rfl) (by kernel_rfl) (by kernel_rfl) (fun _ _ _ h => h) (Or.inl ⟨by rfl, ?_⟩) hHeld ?_
            rotate_left 1
            focus (intro w hSw; (try dsimp only at hSw); go_simp; (try with_reducible rfl))
            (repeat (first | simp only [Act.put] | simp only [List.setIfInBounds_toArray] | simp only [List.set_cons_zero] | simp only [List.set_cons_succ]))
            refine takeD (i := 9) (d := some 79) (v := ?_) rfl rfl (by kernel_rfl) (by kernel_rfl) (by kernel_rfl) (fun _ _ _ h => h) (Or.inl ⟨by rfl, ?_⟩) hHeld ?_
            rotate_left 1
            focus (intro w hSw; (try dsimp only at hSw); go_simp; (try with_reducible rfl))
            (repeat (first | simp only [Act.put] | simp only [List.setIfInBounds_toArray] | simp only [List.set_cons_zero] | simp only [List.set_cons_succ]))
            refine takeD (i := 10) (d := some 80) (v := ?_) rfl rfl (by kernel_rfl) (by kernel_rfl) (by kernel_rfl) (fun _ _ _ h => h) (Or.inl ⟨by rfl, ?_⟩) hHeld ?_
            rotate_left 1
            focus (intro w hSw; (try dsimp only at hSw); go_simp; (try with_reducible rfl))
            (repeat (first | simp only [Act.put] | simp only [List.setIfInBounds_toArray] | simp only [List.set_cons_zero] | simp only [List.set_cons_succ]))
            refine takeD (i := 11) (d := some 81) (v := ?_) rfl rfl (by kernel_rfl) (by kernel_rfl) (by kernel_rfl) (fun _ _ _ h => h) (Or.inl ⟨by rfl, ?_⟩) hHeld ?_
            rotate_left 1
            focus (intro w hSw; (try dsimp only at hSw); go_simp; (try with_reducible rfl))
            (repeat (first | simp only [Act.put] | simp only [List.setIfInBounds_toArray] | simp only [List.set_cons_zero] | simp only [List.set_cons_succ]))
            refine takeD (i := 12) (d := some 82) (v := ?_) rfl rfl (by kernel_rfl) (by kernel_rfl) (by kernel_rfl) (fun _ _ _ h => h) (Or.inl ⟨by rfl, ?_⟩) hHeld ?_
            rotate_left 1
            focus (intro w hSw; (try dsimp only at hSw); go_simp; (try with_reducible rfl))
            (repeat (first | simp only [Act.put] | simp only [List.setIfInBounds_toArray] | simp only [List.set_cons_zero] | simp only [List.set_cons_succ]))
            refine takeD (i := 13) (d := some 83) (v := ?_) rfl rfl (by kernel_rfl) (by kernel_rfl) (by kernel_rfl) (fun _ _ _ h => h) (Or.inl ⟨by rfl, ?_⟩) hHeld ?_
            rotate_left 1
            focus (intro w hSw; (try dsimp only at hSw); go_simp; (try with_reducible rfl))
            (repeat (first | simp only [Act.put] | simp only [List.setIfInBounds_toArray] | simp only [List.set_cons_zero] | simp only [List.set_cons_succ]))
            refine wpAnyH_done (by kernel_rfl) ?_ _
            go_wp2_with fail
            go_meet
            case rel => exact ⟨congrArg Value.bool (by rw [← HZ.out, Bool.not_true, Bool.false_or]; rw [Bool.eq_iff_iff]; simp; omega), Lib.hid (by repeat (first | with_reducible exact Below.refl _ _ | (with_reducible refine Below.drew ?_) | (with_reducible refine belowN ?_ _)))⟩
      case rest =>
        obtain ⟨hc, HBc⟩ := hcut
        have HS4 := Lib.hid (HS6.out.next HBc.out)
        clear a0 a1 a2 c0 c1 c2 c3 n0 n1 n2 HBc
        obtain ⟨⟨a0, a1, a2⟩, c0, c1, c2, c3⟩ := HS4.out.cells
        rw [HST.out] at c3
        rw [HP0.out] at c1
        have r0 := cell_of (j := 0) HS4.out.b2 rfl
        have r1 := cell_of (j := 1) HS4.out.b2 rfl
        have r2 := cell_of (j := 2) HS4.out.b2 rfl
        have s0 := cell_of (j := 0) HS4.out.b3 rfl
        have s1 := cell_of (j := 1) HS4.out.b3 rfl
        have s2 := cell_of (j := 2) HS4.out.b3 rfl
        have s3 := cell_of (j := 3) HS4.out.b3 rfl
        have q0 : wc.frozen? ⟨w.heap.size + 1 + 1, 0, none⟩ = false := by simp [World.frozen?, HS4.out.b2]
        have q1 : wc.frozen? ⟨w.heap.size + 1 + 1, 1, none⟩ = false := by simp [World.frozen?, HS4.out.b2]
        have q2 : wc.frozen? ⟨w.heap.size + 1 + 1, 2, none⟩ = false := by simp [World.frozen?, HS4.out.b2]
        have p0 : wc.frozen? ⟨w.heap.size + 1 + 1 + 1, 0, none⟩ = false := by simp [World.frozen?, HS4.out.b3]
        have p1 : wc.frozen? ⟨w.heap.size + 1 + 1 + 1, 1, none⟩ = false := by simp [World.frozen?, HS4.out.b3]
        have p2 : wc.frozen? ⟨w.heap.size + 1 + 1 + 1, 2, none⟩ = false := by simp [World.frozen?, HS4.out.b3]
        have p3 : wc.frozen? ⟨w.heap.size + 1 + 1 + 1, 3, none⟩ = false := by simp [World.frozen?, HS4.out.b3]
        have hszc := HS4.out.size
        by_cases hbad : recs d.sectors = l.recs.take sy ∧ ¬ 4294967296 ≤ g
        · have hc2 : u83 = .bool false := by rw [hc, decide_eq_true hbad.1, decide_eq_false hbad.2]; rfl
          subst hc2
          clear hc
          have HREC := Lib.hid hbad.1
          have hg32 : g < 4294967296 := by omega
          have HSP2 := HSP.out
          rw [if_neg (by rw [← HG.out]; intro h; rcases h with h | h; exact h hbad.1; omega)] at HSP2
          replace HSP := Lib.hid HSP2
          clear HSP2 hbad
          by_cases hfull : sy = l.recs.length
          · have HSP2 := HSP.out
            rw [if_pos hfull] at HSP2
            replace HSP := Lib.hid HSP2
            clear HSP2
            have hfb : ((sy : Int) == (l.recs.length : Int)) = true := by rw [beq_iff_eq]; omega
            have HFULL := Lib.hid hfull
            clear hfull
            go_wp2_with fail
            go_region_held3 (fun w' => w'.cell? ⟨w.heap.size, 0, none⟩ = some (.int .i64 l.many) ∧ w'.cell? ⟨w.heap.size, 1, none⟩ = some (.slice rA l.recs.length rc) ∧ w'.cell? ⟨w.heap.size, 2, none⟩ = some (.int .i64 (sy : Int)) ∧ w'.cell? ⟨w.heap.size + 1, 0, none⟩ = some (.slice sA d.sectors.length sc) ∧ w'.cell? ⟨w.heap.size + 1, 1, none⟩ = some (.slice pA 0 pc) ∧ w'.cell? ⟨w.heap.size + 1, 2, none⟩ = some (.int .i64 d.left) ∧ w'.cell? ⟨w.heap.size + 1, 3, none⟩ = some (.bool false)) (first | with_reducible exact ⟨a0, a1, a2, c0, c1, c2, c3⟩ | (refine ⟨?_, ?_, ?_, ?_, ?_, ?_, ?_⟩ <;> (repeat (first | with_reducible assumption | with_reducible refine cell_dr ?_ | with_reducible refine cell_off (by simp <;> omega) ?_)))) (first | fail)
            all_goals go_wp2_with fail
            all_goals
              obtain ⟨W', hW'⟩ : ∃ W', W' = _ := ⟨_, rfl⟩
              obtain ⟨⟨⟨k0, k1, k2⟩, k3, k4, k5, k6⟩, hl9, hd9, hb9⟩ := HS4.out.ret (L := l) (E := d) ⟨_, by rw [HSY.out], rA, rc, rfl, hr1, hr2, HS4.out.mat⟩ (by have := HS4.out.disk; rw [HP0.out, HST.out] at this; exact this) hW'
              rw [← hW']
              refine bodyPost_ret (v := .tuple #[.agg #[.int .i64 l.many, .slice rA l.recs.length rc, .int .i64 (sy : Int)], .agg #[.slice sA d.sectors.length sc, .slice pA 0 pc, .int .i64 d.left, .bool false], .int .i64 0]) (by simp [results, Try.results21, go_sem, cell_dr k0, cell_dr k1, cell_dr k2, cell_dr k3, cell_dr k4, cell_dr k5, cell_dr k6]) rfl (RetSync.mk (hl9.keep fun _ _ _ => rfl) (hd9.keep fun _ _ _ => rfl) hb9.drew HSP.out)
          · have HSP2 := HSP.out
            rw [if_neg hfull] at HSP2
            replace HSP := Lib.hid HSP2
            clear HSP2
            have hfb : ((sy : Int) == (l.recs.length : Int)) = false := by rw [beq_eq_false_iff_ne]; omega
            have hlt : sy < l.recs.length := by omega
            have hsc1 : (sy : Int) ≤ (rc : Int) := by omega
            have hsc2 : ¬ (rc : Int) < (sy : Int) := by omega
            have hsc3 : ¬ rc = 0 := by omega
            have hsc4 : sy ≤ rc := by omega
            have hsc5 : ¬ rc = sy := by omega
            have hsc6 : (sy : Int) ≤ (l.recs.length : Int) := by omega
            clear hfull
            obtain ⟨rb, ro, rfl⟩ := HS4.out.mat.head (show 0 < l.recs.length by omega)
            have htl : (l.recs.take sy).length = sy := by rw [List.length_take, Nat.min_eq_left hsyl]
            have CU := Lib.hid (used_any wc _ (some ⟨rb, ro, none⟩) rc (l.recs.take sy) (by have := HF.out.len; rw [List.length_take]; omega) (LensR.take HF.out.lens sy) (HS4.out.mat.take sy))
            obtain ⟨t0, ht0⟩ : ∃ t, t = used (recs d.sectors) := ⟨_, rfl⟩
            have ht0l : t0 ≤ d.sectors.length := by
              obtain ⟨-, -, h, -⟩ := recs_split HSZ.out
              rw [ht0]; exact h
            rw [htl, ← HREC.out, usedI_small (by rw [← ht0]; omega), ← ht0] at CU
            obtain ⟨S, hS⟩ : ∃ S, S = recsW g t0 (l.recs.drop sy) := ⟨_, rfl⟩
            rw [← ht0, ← HG.out, ← hS] at HSP
            have HSD := Lib.hid hS
            have HT0 := Lib.hid ht0
            have HE4 : Hid (SyE w M l.many (some ⟨rb, ro, none⟩) rc sy l.recs (wroteOr d t0 (S.take (used ((l.recs.drop sy).take 0)))) wc) := Lib.hid ⟨_, _, _, _, by
              have := HS4.out
              rw [List.take_zero, used_nil, List.take_zero]
              have e : wroteOr d t0 [] = d := by
                unfold wroteOr wroteAt wrsAt
                rw [if_pos (by simpa using ht0l), List.append_nil]
              rw [e]
              exact this⟩
            clear hS ht0 htl
            clear r0 r1 r2 s0 s1 s2 s3 q0 q1 q2 p0 p1 p2 p3 hszc
            go_wp2_with (go_at_call 36; refine CU.out.mono ?_; rintro e w9 ⟨rfl, rfl⟩)
            clear a0 a1 a2 c0 c1 c2 c3
            go_loopw [6, 13, 106] (fun er q i wr => ∃ (k : Nat), k ≤ l.recs.length - sy ∧ er = .int .i64 0 ∧ q = .int .i64 ((t0 + used ((l.recs.drop sy).take k) : Nat) : Int) ∧ i = .int .i64 (k : Int) ∧ t0 + used ((l.recs.drop sy).take k) ≤ d.sectors.length ∧ Hid (SyE w M l.many (some ⟨rb, ro, none⟩) rc sy l.recs (wroteOr d t0 (S.take (used ((l.recs.drop sy).take k)))) wr)) (fun _ _ i _ => l.recs.length - sy - (intOf i).toNat)
            case atStart => exact ⟨0, Nat.zero_le _, rfl, rfl, rfl, ht0l, HE4⟩
            case round =>
              obtain ⟨k, hk2, rfl, rfl, rfl, hle, HE⟩ := hrel
              obtain ⟨wx, rfl⟩ : ∃ wx, wx = wr := ⟨_, rfl⟩
              obtain ⟨x0, x1, x2, x3, hSS⟩ := id HE.out
              have HSS := Lib.hid hSS
              clear hSS
              obtain ⟨⟨a0, a1, a2⟩, c0, c1, c2, c3⟩ := HSS.out.cells
              by_cases hkl : sy + k < l.recs.length
              · obtain ⟨b', off', bA, bc, hbe, hbl, hck, hb1, hb2, hb3⟩ := HSS.out.mat.at_ (Below.refl _ _) hkl
                cases hbe
                rw [show ro + (sy + k) = ro + sy + k by omega] at hck
                have HLE := Lib.hid (HF.out.lens (sy + k) hkl)
                obtain ⟨b, hb⟩ : ∃ b, b = l.recs[sy + k] := ⟨_, rfl⟩
                rw [← hb] at hck hb1 hb3 HLE
                have HBR := Lib.hid hb
                have HB3 := Lib.hid hb3
                have hk0 : (0 : Int) ≤ (k : Int) := by omega
                have hk3 : (k : Int) < (l.recs.length : Int) - (sy : Int) := by omega
                have hk4 : k < l.recs.length - sy := by omega
                have hk5 : (k : Int) < ((l.recs.length - sy : Nat) : Int) := by omega
                clear hb hb3
                obtain ⟨nb, hnb⟩ : ∃ nb, nb = secs b.length := ⟨_, rfl⟩
                have CSb := fun W => Lib.hid (show Calls Try.prog 35 #[.slice bA b.length bc] W fun e w' => e = .returned (.int .i64 (nb : Nat)) ∧ W = w' by rw [hnb]; exact sectors_any W bA b.length bc HLE.out)
                have hnb1 : 1 ≤ nb ∧ 116 * (nb - 1) ≤ b.length ∧ (b.length ≠ 0 → 116 * (nb - 1) < b.length) := by unfold secs at hnb; omega
                have hnb2 : b.length ≤ 116 * nb := by unfold secs at hnb; omega
                have HNB1 := Lib.hid hnb1
                have HNB2 := Lib.hid hnb2
                have HNB := Lib.hid hnb
                obtain ⟨m0, hm0⟩ : ∃ m0, m0 = used ((l.recs.drop sy).take k) := ⟨_, rfl⟩
                rw [← hm0] at HE hle ⊢
                have HM0 := Lib.hid hm0
                clear hm0 hnb hnb1 hnb2
                go_wp2_with (go_at_call 35; refine (CSb _).out.mono ?_; rintro e w9 ⟨rfl, rfl⟩)
                clear a0 a1 a2 c0 c1 c2 c3 HSS
                go_loopw [6, 13, 15, 16, 17] (fun er q s kd n wr => ∃ (j r bl c kn : Nat) (A : Option Addr), r + j = nb ∧ er = .int .i64 0 ∧ q = .int .i64 ((t0 + (m0 + j) : Nat) : Int) ∧ s = .slice A bl c ∧ kd = .int .u8 (kn : Int) ∧ n = .int .i64 (r : Int) ∧ t0 + (m0 + j) ≤ d.sectors.length ∧ bl ≤ c ∧ c ≤ 9223372036854775807 ∧ Hid (bl = b.length - 116 * j) ∧ Hid (kn = if j = 0 then 1 else 0) ∧ Hid (BytesC wr (Bx M w.heap.size 4) A (b.drop (116 * j))) ∧ Hid (SyE w M l.many (some ⟨rb, ro, none⟩) rc sy l.recs (wroteOr d t0 (S.take (m0 + j))) wr)) (fun _ _ _ _ n _ => (intOf n).toNat)
                case atStart => exact ⟨0, nb, b.length, bc, 1, bA, rfl, rfl, rfl, rfl, rfl, rfl, hle, hb1, hb2, Lib.hid rfl, Lib.hid rfl, HB3, HE⟩
                case round =>
                  clear HB3 HE
                  obtain ⟨j, r, bl, c, kn, A, hrj, rfl, rfl, rfl, rfl, rfl, hle2, hc1, hc2, HBL, HKN, HB3, HE2⟩ := hrel
                  obtain ⟨x0, x1, x2, x3, hSS⟩ := id HE2.out
                  have HSS := Lib.hid hSS
                  clear hSS
                  obtain ⟨⟨a0, a1, a2⟩, c0, c1, c2, c3⟩ := HSS.out.cells
                  by_cases hr0 : r = 0
                  · subst hr0
                    obtain rfl : j = nb := by omega
                    have hx9 : used ((l.recs.drop sy).take (k + 1)) = m0 + j := by
                      obtain ⟨hi, hie⟩ := drop_at hkl
                      rw [used_take hi, hie, ← HBR.out, ← HNB.out, ← HM0.out]
                    have HX9 := Lib.hid hx9
                    clear hx9
                    go_wp2_with fail
                    go_roundw
                    case rel => exact ⟨k + 1, by omega, rfl, by rw [HX9.out], rfl, by rw [HX9.out]; exact hle2, Lib.hid (by rw [HX9.out]; exact HE2.out)⟩
                    case measure => simp [intOf]; omega
                  · have hr3 : (0 : Int) < (r : Int) := by omega
                    have hjn : j < nb := by omega
                    have hki : (bits .or .u8 (kn : Int) 2 : Int) = ((kn + 2 : Nat) : Int) := by
                      have h := HKN.out
                      split at h <;> subst h <;> rfl
                    have HKI := Lib.hid hki
                    clear hki
                    go_upto_if 117 with fail
                    go_cut [16] (fun s W => s = .int .u8 (((kindOf j nb).toNat : Nat) : Int) ∧ W = wr)
                    case first =>
                      by_cases hr1' : r = 1
                      · have hr5 : ((r : Int) == 1) = true := by rw [beq_iff_eq]; omega
                        go_wp2_with fail
                        go_meet
                        case rel => exact ⟨by rw [HKI.out, kindOf_nat, HKN.out, if_pos (show j + 1 = nb by omega)], rfl⟩
                      · have hr5 : ((r : Int) == 1) = false := by rw [beq_eq_false_iff_ne]; omega
                        go_wp2_with fail
                        go_meet
                        case rel => exact ⟨by rw [kindOf_nat, HKN.out, if_neg (show ¬ j + 1 = nb by omega)]; rfl, rfl⟩
                    case rest =>
                      obtain ⟨hc, rfl⟩ := hcut
                      subst hc
                      go_upto_region 33 with fail
                      have hpl : (if (116 : Int) < (bl : Int) then (116 : Int) else (bl : Int)) = (((pieceOf b j).length : Nat) : Int) := by
                        rw [pieceOf_length, ← HBL.out]
                        split <;> omega
                      rw [hpl]
                      obtain ⟨pl, hplE⟩ : ∃ pl, pl = (pieceOf b j).length := ⟨_, rfl⟩
                      rw [← hplE]
                      have hplL : pl = min 116 bl := by rw [hplE, pieceOf_length, HBL.out]
                      have hplB := pieceOf_le b j
                      have HPB := Lib.hid (show BytesC wc (Bx M w.heap.size 4) A (pieceOf b j) from HB3.out.takeN 116)
                      have hlt9 : j < secs b.length := by rw [← HNB.out]; exact hjn
                      have CE := fun (W : World) (hB : Below wc.heap.size wc W) (A9 : Option Addr) (hA : A9 = A) => Lib.hid (show Calls Try.prog 44 #[.int .u64 (g : Int), .int .i64 ((t0 + (m0 + j) : Nat) : Int), .int .u8 (((kindOf j nb).toNat : Nat) : Int), .slice A9 pl c] W fun e w' => ∃ A c, e = .returned (.slice A 128 c) ∧ Hid (BytesC w' (fun q => W.heap.size ≤ q) A (secOf g (t0 + (m0 + j)) (kindOf j nb) (pieceOf b j))) ∧ Below W.heap.size W w' from by
                        subst hA
                        rw [hplE]
                        exact (encode_any W (Bx M w.heap.size 4) g (t0 + (m0 + j)) (kindOf j nb) (pieceOf b j) (.slice A9 (pieceOf b j).length c) (by omega) hplB ⟨A9, c, rfl, by omega, hc2, HPB.out.below hB⟩).mono fun e w' ⟨v, he, ⟨A, c, hv, _, _, hb⟩, hbl⟩ => ⟨A, c, by rw [he, hv, secOf_length hplB], Lib.hid hb, hbl⟩)
                      obtain ⟨D2, hD2⟩ : ∃ x, x = wroteOr d t0 (S.take (m0 + (j + 1))) := ⟨_, rfl⟩
                      obtain ⟨cd, hcd⟩ : ∃ x : Int, x = (if t0 + (m0 + j) < d.sectors.length then 0 else 340) := ⟨_, rfl⟩
                      have CWr : ∀ (W : World) (_ : Below wc.heap.size wc W) (A : Option Addr) (c : Nat) (_ : BytesC W (fun q => wc.heap.size ≤ q) A (secOf g (t0 + (m0 + j)) (kindOf j nb) (pieceOf b j))),
                          Hid (Calls Try.prog 26 #[.agg #[x0, x1, x2, x3], .int .i64 ((t0 + (m0 + j) : Nat) : Int), .slice A 128 c] W (RetDiskE W (New (Bx M w.heap.size 4) W) (D2, cd))) := fun W hB A c hb => by
                        obtain ⟨hi, hie⟩ := drop_at hkl
                        have hx := next_writeW (S := S) (g := g) (t0 := t0) (i := k) (j := j) (new := l.recs.drop sy) HOK.out HST.out HP.out HSD.out hi (by rw [hie, ← HBR.out]; exact hlt9) (by rw [← HM0.out]; exact hle2)
                        rw [hie, ← HBR.out, ← HNB.out, ← HM0.out, ← hD2, ← hcd] at hx
                        have hsz := HSS.out.size
                        have hq := write_any W (Bx M w.heap.size 4) _ (.agg #[x0, x1, x2, x3]) (HSS.out.disk.below hB) ((t0 + (m0 + j) : Nat) : Int) (secOf g (t0 + (m0 + j)) (kindOf j nb) (pieceOf b j)) A c (hb.mono fun q _ hq => .inr (by omega)) (by rw [secOf_length hplB]; omega)
                        rw [hx, secOf_length hplB] at hq
                        exact Lib.hid hq
                      have HD2 := Lib.hid hD2
                      have HCD := Lib.hid hcd
                      have hpc0 : (0 : Int) ≤ (pl : Int) := by omega
                      have hpc1 : (pl : Int) ≤ (c : Int) := by omega
                      have hpc2 : ¬ (c : Int) < (pl : Int) := by omega
                      have hpc3 : pl ≤ c := by omega
                      have hpc4 : (pl : Int) ≤ (bl : Int) := by omega
                      have hr9 : (r : Int) ≤ 140737488355328 := by have := HNB1.out; have := HLE.out; omega
                      have HPL := Lib.hid hplL
                      have HPE := Lib.hid hplE
                      clear hplB hplL hplE hD2 hcd hpl hlt9
                      refine anyL_begin (z := 13) (S := fun w' => w'.cell? ⟨w.heap.size + 1, 0, none⟩ = some x0 ∧ w'.cell? ⟨w.heap.size + 1, 1, none⟩ = some x1 ∧ w'.cell? ⟨w.heap.size + 1, 2, none⟩ = some x2 ∧ w'.cell? ⟨w.heap.size + 1, 3, none⟩ = some x3) (by kernel_rfl) ⟨c0, c1, c2, c3⟩ (fun hHeld => ?_)
                      refine AnyL.take (i := 0) (v := ?_) rfl (by kernel_rfl) (by kernel_rfl) (fun _ _ _ h => h) (by kernel_rfl) (by kernel_rfl) (by kernel_rfl) (Or.inl ⟨by rfl, ?_⟩) hHeld ?_
                      rotate_left 1
                      focus (intro w hSw; (try dsimp only at hSw); go_simp; (try with_reducible rfl))
                      (repeat (first | simp only [Act.put] | simp only [List.setIfInBounds_toArray] | simp only [List.set_cons_zero] | simp only [List.set_cons_succ]))
                      refine AnyL.take (i := 1) (v := ?_) rfl (by kernel_rfl) (by kernel_rfl) (fun _ _ _ h => h) (by kernel_rfl) (by kernel_rfl) (by kernel_rfl) (Or.inl ⟨by rfl, ?_⟩) hHeld ?_
                      rotate_left 1
                      focus (intro w hSw; (try dsimp only at hSw); go_simp; (try with_reducible rfl))
                      (repeat (first | simp only [Act.put] | simp only [List.setIfInBounds_toArray] | simp only [List.set_cons_zero] | simp only [List.set_cons_succ]))
                      refine AnyL.take (i := 2) (v := ?_) rfl (by kernel_rfl) (by kernel_rfl) (fun _ _ _ h => h) (by kernel_rfl) (by kernel_rfl) (by kernel_rfl) (Or.inl ⟨by rfl, ?_⟩) hHeld ?_
                      rotate_left 1
                      focus (intro w hSw; (try dsimp only at hSw); go_simp; (try with_reducible rfl))
                      (repeat (first | simp only [Act.put] | simp only [List.setIfInBounds_toArray] | simp only [List.set_cons_zero] | simp only [List.set_cons_succ]))
                      refine AnyL.take (i := 3) (v := ?_) rfl (by kernel_rfl) (by kernel_rfl) (fun _ _ _ h => h) (by kernel_rfl) (by kernel_rfl) (by kernel_rfl) (Or.inl ⟨by rfl, ?_⟩) hHeld ?_
                      rotate_left 1
                      focus (intro w hSw; (try dsimp only at hSw); go_simp; (try with_reducible rfl))
                      (repeat (first | simp only [Act.put] | simp only [List.setIfInBounds_toArray] | simp only [List.set_cons_zero] | simp only [List.set_cons_succ]))
                      refine AnyL.take (i := 4) (v := ?_) rfl (by kernel_rfl) (by kernel_rfl) (fun _ _ _ h => h) (by kernel_rfl) (by kernel_rfl) (by kernel_rfl) (Or.inl ⟨by rfl, ?_⟩) hHeld ?_
                      rotate_left 1
                      focus (intro w hSw; (try dsimp only at hSw); go_simp; (try with_reducible rfl))
                      (repeat (first | simp only [Act.put] | simp only [List.setIfInBounds_toArray] | simp only [List.set_cons_zero] | simp only [List.set_cons_succ]))
                      refine AnyL.take (i := 5) (v := ?_) rfl (by kernel_rfl) (by kernel_rfl) (fun _ _ _ h => h) (by kernel_rfl) (by kernel_rfl) (by kernel_rfl) (Or.inl ⟨by rfl, ?_⟩) hHeld ?_
                      rotate_left 1
                      focus (intro w hSw; (try dsimp only at hSw); go_simp; (try with_reducible rfl))
                      (repeat (first | simp only [Act.put] | simp only [List.setIfInBounds_toArray] | simp only [List.set_cons_zero] | simp only [List.set_cons_succ]))
                      refine AnyL.take (i := 6) (v := ?_) rfl (by kernel_rfl) (by kernel_rfl) (fun _ _ _ h => h) (by kernel_rfl) (by kernel_rfl) (by kernel_rfl) (Or.inl ⟨by rfl, ?_⟩) hHeld ?_
                      rotate_left 1
                      focus (intro w hSw; (try dsimp only at hSw); go_simp; (try with_reducible rfl))
                      (repeat (first | simp only [Act.put] | simp only [List.setIfInBounds_toArray] | simp only [List.set_cons_zero] | simp only [List.set_cons_succ]))
                      refine AnyL.take (i := 7) (v := ?_) rfl (by kernel_rfl) (by kernel_rfl) (fun _ _ _ h => h) (by kernel_rfl) (by kernel_rfl) (by kernel_rfl) (Or.inl ⟨by rfl, ?_⟩) hHeld ?_
                      rotate_left 1
                      focus (intro w hSw; (try dsimp only at hSw); go_simp; (try with_reducible rfl))
                      (repeat (first | simp only [Act.put] | simp only [List.setIfInBounds_toArray] | simp only [List.set_cons_zero] | simp only [List.set_cons_succ]))
                      refine AnyL.one (i := 8) (by kernel_rfl) rfl (fun K hK => ?_)
                      go_simp
                      go_at_call 44
                      refine (CE _ (Below.drew (Below.refl _ _)) _ (by first | exact slice0 | (repeat (first | rw [slice0] | rfl)))).out.mono ?_
                      rintro e w9 ⟨A9, c9, rfl, HM9, hb9⟩
                      have HB9 : Hid (Below wc.heap.size wc w9) := Lib.hid ((Below.drew (Below.refl _ _)).trans hb9)
                      clear hb9
                      refine hK.out _ _ (fun _ => (HSS.out.next HB9.out).cells.2) (fun hHeld => ?_)
                      replace hHeld := hHeld (by kernel_rfl)
                      clear hK K
                      (repeat (first | simp only [Act.put] | simp only [List.setIfInBounds_toArray] | simp only [List.set_cons_zero] | simp only [List.set_cons_succ]))
                      refine AnyL.one (i := 9) (by kernel_rfl) rfl (fun K hK => ?_)
                      go_simp
                      go_at_call 26
                      refine (CWr _ HB9.out _ _ HM9.out).out.mono ?_
                      rintro e w8 ⟨v8, rfl, hd8, hb8⟩
                      have HB8 : Hid (Below wc.heap.size wc w8) := Lib.hid (HB9.out.trans (hb8.mono HB9.out.size))
                      have HD8 := Lib.hid (hd8.mono (M' := Bx M w.heap.size 4) fun q _ hq => Bx.new (Nat.le_trans HSS.out.size HB9.out.size) hq)
                      obtain ⟨sA8, sc8, pA8, pc8, rfl, -⟩ := hd8.parts
                      clear hb8 hd8
                      refine hK.out _ _ (fun _ => (HSS.out.next HB8.out).cells.2) (fun hHeld => ?_)
                      replace hHeld := hHeld (by kernel_rfl)
                      clear hK K
                      (try dsimp only)
                      refine AnyL.take (i := 10) (v := ?_) rfl (by kernel_rfl) (by kernel_rfl) (fun _ _ _ h => h) (by kernel_rfl) (by kernel_rfl) (by kernel_rfl) (Or.inl ⟨by rfl, ?_⟩) hHeld ?_
                      rotate_left 1
                      focus (intro w hSw; (try dsimp only at hSw); go_simp; (try with_reducible rfl))
                      (repeat (first | simp only [Act.put] | simp only [List.setIfInBounds_toArray] | simp only [List.set_cons_zero] | simp only [List.set_cons_succ]))
                      refine AnyL.take (i := 11) (v := ?_) rfl (by kernel_rfl) (by kernel_rfl) (fun _ _ _ h => h) (by kernel_rfl) (by kernel_rfl) (by kernel_rfl) (Or.inl ⟨by rfl, ?_⟩) hHeld ?_
                      rotate_left 1
                      focus (intro w hSw; (try dsimp only at hSw); go_simp; (try with_reducible rfl))
                      (repeat (first | simp only [Act.put] | simp only [List.setIfInBounds_toArray] | simp only [List.set_cons_zero] | simp only [List.set_cons_succ]))
                      refine AnyL.late (i := 12) (v := ?_) rfl (by kernel_rfl) (by kernel_rfl) (fun _ _ _ h => h) (by kernel_rfl) (by kernel_rfl) (Or.inl ⟨by rfl, ?_⟩) (fun _ => hHeld) ?_
                      rotate_left 1
                      focus (intro w hSw; (try dsimp only at hSw); go_simp; (try with_reducible rfl))
                      (repeat (first | simp only [Act.put] | simp only [List.setIfInBounds_toArray] | simp only [List.set_cons_zero] | simp only [List.set_cons_succ]))
                      refine AnyL.one (i := 13) (by kernel_rfl) rfl (fun K hK => ?_)
                      have y0 : w8.frozen? ⟨w.heap.size + 1, 0, none⟩ = false := by simp [World.frozen?, (HSS.out.next HB8.out).b1]
                      have y1 : w8.frozen? ⟨w.heap.size + 1, 1, none⟩ = false := by simp [World.frozen?, (HSS.out.next HB8.out).b1]
                      have y2 : w8.frozen? ⟨w.heap.size + 1, 2, none⟩ = false := by simp [World.frozen?, (HSS.out.next HB8.out).b1]
                      have y3 : w8.frozen? ⟨w.heap.size + 1, 3, none⟩ = false := by simp [World.frozen?, (HSS.out.next HB8.out).b1]
                      obtain ⟨-, g0, g1, g2, g3⟩ := (HSS.out.next HB8.out).cells
                      go_simp
                      refine hK.out _ _ (fun h => nomatch (show true = false from h)) (fun _ => ?_)
                      clear hK K
                      (try dsimp only)
                      refine AnyL.one (i := 14) (by kernel_rfl) rfl (fun K hK => ?_)
                      go_simp
                      refine hK.out _ _ (fun h => nomatch (show true = false from h)) (fun _ => ?_)
                      clear hK K
                      (repeat (first | simp only [Act.put] | simp only [List.setIfInBounds_toArray] | simp only [List.set_cons_zero] | simp only [List.set_cons_succ]))
                      refine AnyL.done (by kernel_rfl) ?_
                      obtain ⟨W9, hW9e⟩ : ∃ W9, W9 = ((((w8.setCell ⟨w.heap.size + 1, 0, none⟩ (.slice sA8 D2.sectors.length sc8)).setCell ⟨w.heap.size + 1, 1, none⟩ (.slice pA8 D2.pending.length pc8)).setCell ⟨w.heap.size + 1, 2, none⟩ (.int .i64 D2.left)).setCell ⟨w.heap.size + 1, 3, none⟩ (.bool D2.stopped)) := ⟨_, rfl⟩
                      have HW9 := Lib.hid (show SyE w M l.many (some ⟨rb, ro, none⟩) rc sy l.recs D2 W9 by rw [hW9e]; exact ⟨_, _, _, _, (HSS.out.next HB8.out).store HD8.out⟩)
                      have HK9 := Lib.hid (show BytesC W9 (Bx M w.heap.size 4) A (b.drop (116 * j)) from by
                        rw [hW9e]
                        exact (HB3.out.below HB8.out).keep fun p hp _ => (((((Off.refl (w.heap.size + 1) w8).setCell 0 _).setCell 1 _).setCell 2 _).setCell 3 _) p (fun e => by rcases hp with hb | hb <;> omega))
                      rw [← hW9e]
                      clear hW9e HD8 HM9 CWr CE HPB HB8 HB9 hb1
                      have hq9 : ((t0 : Int) + ((m0 : Int) + (j : Int))) = ((t0 + (m0 + j) : Nat) : Int) := by omega
                      (try rw [hq9])
                      clear hq9
                      by_cases hfit : t0 + (m0 + j) < d.sectors.length
                      · obtain rfl : cd = 0 := by rw [HCD.out, if_pos hfit]
                        have hle3 : t0 + (m0 + (j + 1)) ≤ d.sectors.length := by omega
                        have hcp : ¬ c = pl ∨ bl = pl := by have := HPL.out; omega
                        clear hfit
                        have hdd : (b.drop (116 * j)).length = bl := by rw [List.length_drop, HBL.out]
                        have hKD : BytesC W9 (Bx M w.heap.size 4) (if c = pl then A else Option.map (fun x => x.add pl) A) (b.drop (116 * (j + 1))) := by
                          by_cases h9 : 116 < bl
                          · have h10 : pl = 116 := by have := HPL.out; omega
                            have := HK9.out.dropN (k := pl) (by rw [hdd]; exact hc1)
                            rw [List.drop_drop, h10, show 116 * j + 116 = 116 * (j + 1) by omega] at this
                            rw [h10]
                            exact this
                          · rw [List.drop_of_length_le (show b.length ≤ 116 * (j + 1) by have := HBL.out; omega)]
                            exact fun h => absurd h (by simp)
                        have HKD := Lib.hid hKD
                        clear hdd hKD hcp
                        go_wp2_with fail
                        go_roundw
                        case rel =>
                          exact ⟨j + 1, r - 1, bl - pl, c - pl, 0, _, by omega, rfl, (by congr 1 <;> omega), rfl, rfl, (by congr 1 <;> omega), hle3, by omega, by omega, Lib.hid (by have := HPL.out; have := HBL.out; omega), Lib.hid (by rw [if_neg (by omega)]), HKD, Lib.hid (by rw [← HD2.out]; exact HW9.out)⟩
                        case measure => simp [intOf]; omega
                      · obtain rfl : cd = 340 := by rw [HCD.out, if_neg hfit]
                        have HS := Lib.hid (show syncL l d = (zeroL, zeroD, 340) by
                          have h1 : d.sectors.length < t0 + used (l.recs.drop sy) := by
                            obtain ⟨hi, hie⟩ := drop_at hkl
                            have := used_le_take hi (j := j) (by rw [hie, ← HBR.out, ← HNB.out]; exact hjn)
                            rw [← HM0.out] at this
                            omega
                          rw [HSP.out, wrote_no HSD.out h1, sync_zero]
                          exact if_neg (by decide))
                        obtain ⟨y0, y1, y2, y3, hS9⟩ := HW9.out
                        have HS9 := Lib.hid hS9
                        clear hS9 hfit a0 a1 a2 c0 c1 c2 c3
                        have r0 := cell_of (j := 0) HS9.out.b2 rfl
                        have r1 := cell_of (j := 1) HS9.out.b2 rfl
                        have r2 := cell_of (j := 2) HS9.out.b2 rfl
                        have s0 := cell_of (j := 0) HS9.out.b3 rfl
                        have s1 := cell_of (j := 1) HS9.out.b3 rfl
                        have s2 := cell_of (j := 2) HS9.out.b3 rfl
                        have s3 := cell_of (j := 3) HS9.out.b3 rfl
                        have q0 : W9.frozen? ⟨w.heap.size + 1 + 1, 0, none⟩ = false := by simp [World.frozen?, HS9.out.b2]
                        have q1 : W9.frozen? ⟨w.heap.size + 1 + 1, 1, none⟩ = false := by simp [World.frozen?, HS9.out.b2]
                        have q2 : W9.frozen? ⟨w.heap.size + 1 + 1, 2, none⟩ = false := by simp [World.frozen?, HS9.out.b2]
                        have p0 : W9.frozen? ⟨w.heap.size + 1 + 1 + 1, 0, none⟩ = false := by simp [World.frozen?, HS9.out.b3]
                        have p1 : W9.frozen? ⟨w.heap.size + 1 + 1 + 1, 1, none⟩ = false := by simp [World.frozen?, HS9.out.b3]
                        have p2 : W9.frozen? ⟨w.heap.size + 1 + 1 + 1, 2, none⟩ = false := by simp [World.frozen?, HS9.out.b3]
                        have p3 : W9.frozen? ⟨w.heap.size + 1 + 1 + 1, 3, none⟩ = false := by simp [World.frozen?, HS9.out.b3]
                        have hszc := HS9.out.size
                        go_wp2_with fail
                        obtain ⟨W', hW'⟩ : ∃ W', W' = _ := ⟨_, rfl⟩
                        obtain ⟨⟨⟨k0, k1, k2⟩, k3, k4, k5, k6⟩, hl9, hd9, hb9⟩ := HS9.out.ret (L := zeroL) (E := zeroD) IsLog.zero IsDisk.zero hW'
                        rw [← hW']
                        exact bodyPost_ret (v := .tuple #[.agg #[.int .i64 0, .slice none 0 0, .int .i64 0], .agg #[.slice none 0 0, .slice none 0 0, .int .i64 0, .bool false], .int .i64 340]) (by simp [results, Try.results21, go_sem, k0, k1, k2, k3, k4, k5, k6]) rfl (RetSync.mk hl9 hd9 hb9 HS.out)
              · have hk3 : ¬ (k : Int) < (l.recs.length : Int) - (sy : Int) := by omega
                have hk4 : ¬ (k : Int) < ((l.recs.length - sy : Nat) : Int) := by omega
                have hfin : S.take (used ((l.recs.drop sy).take k)) = S := by
                  rw [List.take_of_length_le (show (l.recs.drop sy).length ≤ k by rw [List.length_drop]; omega), ← recsW_length g t0 (l.recs.drop sy), ← HSD.out, List.take_length]
                rw [hfin] at HSS
                clear HE hfin HE4 CU
                obtain ⟨E, cd, hEc⟩ : ∃ E cd, syncD (wroteOr d t0 S) = (E, cd) := ⟨_, _, rfl⟩
                rw [hEc] at HSP
                have CY := Lib.hid (sync_any wx _ _ _ HSS.out.disk)
                rw [hEc] at CY
                clear hEc
                have hf0 : ∀ W, Below wx.heap.size wx W → (W.frozen? ⟨w.heap.size + 1, 0, none⟩ = false ∧ W.frozen? ⟨w.heap.size + 1, 1, none⟩ = false ∧ W.frozen? ⟨w.heap.size + 1, 2, none⟩ = false ∧ W.frozen? ⟨w.heap.size + 1, 3, none⟩ = false) := fun W hW => ⟨by simp [World.frozen?, (HSS.out.next hW).b1], by simp [World.frozen?, (HSS.out.next hW).b1], by simp [World.frozen?, (HSS.out.next hW).b1], by simp [World.frozen?, (HSS.out.next hW).b1]⟩
                have HF0 := Lib.hid hf0
                clear hf0
                go_upto_region 40 with (go_at_call 27; refine CY.out.mono ?_; rintro e w6 ⟨v5, rfl, hd5, hb5⟩; have HS5 := Lib.hid (HSS.out.next hb5); have HD5 := Lib.hid (hd5.mono (M' := Bx M w.heap.size 4) fun q _ hq => Bx.new HSS.out.size hq); obtain ⟨sA5, sc5, pA5, pc5, rfl, -⟩ := hd5.parts; obtain ⟨y0, y1, y2, y3⟩ := HF0.out _ hb5; obtain ⟨-, g0, g1, g2, g3⟩ := HS5.out.cells; clear hd5 hb5)
                obtain ⟨W7, hW7⟩ : ∃ W7, W7 = ((((w6.setCell ⟨w.heap.size + 1, 0, none⟩ (.slice sA5 E.sectors.length sc5)).setCell ⟨w.heap.size + 1, 1, none⟩ (.slice pA5 E.pending.length pc5)).setCell ⟨w.heap.size + 1, 2, none⟩ (.int .i64 E.left)).setCell ⟨w.heap.size + 1, 3, none⟩ (.bool E.stopped)) := ⟨_, rfl⟩
                have HS7 := Lib.hid (show SyS w M l.many (some ⟨rb, ro, none⟩) rc sy l.recs (.slice sA5 E.sectors.length sc5) (.slice pA5 E.pending.length pc5) (.int .i64 E.left) (.bool E.stopped) E W7 by rw [hW7]; exact HS5.out.store HD5.out)
                rw [← hW7]
                clear hW7 a0 a1 a2 c0 c1 c2 c3 g0 g1 g2 g3 y0 y1 y2 y3 HS5 HD5 CY HF0 HSS
                obtain ⟨⟨a0, a1, a2⟩, c0, c1, c2, c3⟩ := HS7.out.cells
                have hf0 : W7.frozen? ⟨w.heap.size, 2, none⟩ = false := by simp [World.frozen?, HS7.out.b0]
                have hs7z := HS7.out.size
                by_cases hcd : cd = 0
                · have hcb : (cd != 0) = false := by rw [bne_eq_false_iff_eq]; exact hcd
                  have HSP2 := HSP.out
                  rw [if_pos hcd] at HSP2
                  replace HSP := Lib.hid HSP2
                  clear HSP2
                  go_wp2_with fail
                  obtain ⟨W8, hW8⟩ : ∃ W8, W8 = W7.setCell ⟨w.heap.size, 2, none⟩ (.int .i64 (l.recs.length : Int)) := ⟨_, rfl⟩
                  have HS8 := Lib.hid (show SyS w M l.many (some ⟨rb, ro, none⟩) rc l.recs.length l.recs _ _ _ _ _ W8 by rw [hW8]; exact HS7.out.mark l.recs.length)
                  rw [← hW8]
                  have hs8z := HS8.out.size
                  clear hW8 a0 a1 a2 c0 c1 c2 c3 hf0 hs7z
                  obtain ⟨⟨a0, a1, a2⟩, c0, c1, c2, c3⟩ := HS8.out.cells
                  have r0 := cell_of (j := 0) HS8.out.b2 rfl
                  have r1 := cell_of (j := 1) HS8.out.b2 rfl
                  have r2 := cell_of (j := 2) HS8.out.b2 rfl
                  have s0 := cell_of (j := 0) HS8.out.b3 rfl
                  have s1 := cell_of (j := 1) HS8.out.b3 rfl
                  have s2 := cell_of (j := 2) HS8.out.b3 rfl
                  have s3 := cell_of (j := 3) HS8.out.b3 rfl
                  have q0 : W8.frozen? ⟨w.heap.size + 1 + 1, 0, none⟩ = false := by simp [World.frozen?, HS8.out.b2]
                  have q1 : W8.frozen? ⟨w.heap.size + 1 + 1, 1, none⟩ = false := by simp [World.frozen?, HS8.out.b2]
                  have q2 : W8.frozen? ⟨w.heap.size + 1 + 1, 2, none⟩ = false := by simp [World.frozen?, HS8.out.b2]
                  have p0 : W8.frozen? ⟨w.heap.size + 1 + 1 + 1, 0, none⟩ = false := by simp [World.frozen?, HS8.out.b3]
                  have p1 : W8.frozen? ⟨w.heap.size + 1 + 1 + 1, 1, none⟩ = false := by simp [World.frozen?, HS8.out.b3]
                  have p2 : W8.frozen? ⟨w.heap.size + 1 + 1 + 1, 2, none⟩ = false := by simp [World.frozen?, HS8.out.b3]
                  have p3 : W8.frozen? ⟨w.heap.size + 1 + 1 + 1, 3, none⟩ = false := by simp [World.frozen?, HS8.out.b3]
                  go_region_held3 (fun w' => (w'.cell? ⟨w.heap.size, 0, none⟩ = some (.int .i64 l.many) ∧ w'.cell? ⟨w.heap.size, 1, none⟩ = some (.slice (some ⟨rb, ro, none⟩) l.recs.length rc) ∧ w'.cell? ⟨w.heap.size, 2, none⟩ = some (.int .i64 (l.recs.length : Int))) ∧ w'.cell? ⟨w.heap.size + 1, 0, none⟩ = some (.slice sA5 E.sectors.length sc5) ∧ w'.cell? ⟨w.heap.size + 1, 1, none⟩ = some (.slice pA5 E.pending.length pc5) ∧ w'.cell? ⟨w.heap.size + 1, 2, none⟩ = some (.int .i64 E.left) ∧ w'.cell? ⟨w.heap.size + 1, 3, none⟩ = some (.bool E.stopped)) (first | with_reducible exact ⟨⟨a0, a1, a2⟩, c0, c1, c2, c3⟩ | (refine ⟨⟨?_, ?_, ?_⟩, ?_, ?_, ?_, ?_⟩ <;> (repeat (first | with_reducible assumption | with_reducible refine cell_dr ?_ | with_reducible refine cell_off (by simp <;> omega) ?_)))) (first | fail)
                  all_goals go_wp2_with fail
                  all_goals
                    obtain ⟨W', hW'⟩ : ∃ W', W' = _ := ⟨_, rfl⟩
                    obtain ⟨⟨⟨k0, k1, k2⟩, k3, k4, k5, k6⟩, hl9, hd9, hb9⟩ := HS8.out.ret (L := ⟨l.many, l.recs, l.recs.length⟩) (E := E) ⟨_, rfl, some ⟨rb, ro, none⟩, rc, rfl, hr1, hr2, HS8.out.mat⟩ HS8.out.disk hW'
                    rw [← hW']
                    refine bodyPost_ret (v := .tuple #[.agg #[.int .i64 l.many, .slice (some ⟨rb, ro, none⟩) l.recs.length rc, .int .i64 (l.recs.length : Int)], .agg #[.slice sA5 E.sectors.length sc5, .slice pA5 E.pending.length pc5, .int .i64 E.left, .bool E.stopped], .int .i64 0]) (by simp [results, Try.results21, go_sem, cell_dr k0, cell_dr k1, cell_dr k2, cell_dr k3, cell_dr k4, cell_dr k5, cell_dr k6]) rfl (RetSync.mk (hl9.keep fun _ _ _ => rfl) (hd9.keep fun _ _ _ => rfl) hb9.drew HSP.out)
                · have hcb : (cd != 0) = true := by rw [bne_iff_ne]; exact hcd
                  have HSP2 := HSP.out
                  rw [if_neg hcd] at HSP2
                  replace HSP := Lib.hid HSP2
                  clear HSP2
                  have r0 := cell_of (j := 0) HS7.out.b2 rfl
                  have r1 := cell_of (j := 1) HS7.out.b2 rfl
                  have r2 := cell_of (j := 2) HS7.out.b2 rfl
                  have s0 := cell_of (j := 0) HS7.out.b3 rfl
                  have s1 := cell_of (j := 1) HS7.out.b3 rfl
                  have s2 := cell_of (j := 2) HS7.out.b3 rfl
                  have s3 := cell_of (j := 3) HS7.out.b3 rfl
                  have q0 : W7.frozen? ⟨w.heap.size + 1 + 1, 0, none⟩ = false := by simp [World.frozen?, HS7.out.b2]
                  have q1 : W7.frozen? ⟨w.heap.size + 1 + 1, 1, none⟩ = false := by simp [World.frozen?, HS7.out.b2]
                  have q2 : W7.frozen? ⟨w.heap.size + 1 + 1, 2, none⟩ = false := by simp [World.frozen?, HS7.out.b2]
                  have p0 : W7.frozen? ⟨w.heap.size + 1 + 1 + 1, 0, none⟩ = false := by simp [World.frozen?, HS7.out.b3]
                  have p1 : W7.frozen? ⟨w.heap.size + 1 + 1 + 1, 1, none⟩ = false := by simp [World.frozen?, HS7.out.b3]
                  have p2 : W7.frozen? ⟨w.heap.size + 1 + 1 + 1, 2, none⟩ = false := by simp [World.frozen?, HS7.out.b3]
                  have p3 : W7.frozen? ⟨w.heap.size + 1 + 1 + 1, 3, none⟩ = false := by simp [World.frozen?, HS7.out.b3]
                  go_wp2_with fail
                  go_region_held3 (fun w' => w'.cell? ⟨w.heap.size + 1, 0, none⟩ = some (.slice sA5 E.sectors.length sc5) ∧ w'.cell? ⟨w.heap.size + 1, 1, none⟩ = some (.slice pA5 E.pending.length pc5) ∧ w'.cell? ⟨w.heap.size + 1, 2, none⟩ = some (.int .i64 E.left) ∧ w'.cell? ⟨w.heap.size + 1, 3, none⟩ = some (.bool E.stopped)) (first | with_reducible exact ⟨c0, c1, c2, c3⟩ | (refine ⟨?_, ?_, ?_, ?_⟩ <;> (repeat (first | with_reducible assumption | with_reducible refine cell_dr ?_ | with_reducible refine cell_off (by simp <;> omega) ?_)))) (first | fail)
                  all_goals go_wp2_with fail
                  all_goals
                    obtain ⟨W', hW'⟩ : ∃ W', W' = _ := ⟨_, rfl⟩
                    obtain ⟨⟨⟨k0, k1, k2⟩, k3, k4, k5, k6⟩, hl9, hd9, hb9⟩ := HS7.out.ret (L := zeroL) (E := E) IsLog.zero HS7.out.disk hW'
                    rw [← hW']
                    refine bodyPost_ret (v := .tuple #[.agg #[.int .i64 0, .slice none 0 0, .int .i64 0], .agg #[.slice sA5 E.sectors.length sc5, .slice pA5 E.pending.length pc5, .int .i64 E.left, .bool E.stopped], .int .i64 cd]) (by simp [results, Try.results21, go_sem, cell_dr k0, cell_dr k1, cell_dr k2, cell_dr k3, cell_dr k4, cell_dr k5, cell_dr k6]) rfl (RetSync.mk (hl9.keep fun _ _ _ => rfl) (hd9.keep fun _ _ _ => rfl) hb9.drew HSP.out)
        · have hc2 : u83 = .bool true := by
            rw [hc]
            congr 1
            by_cases h1 : recs d.sectors = l.recs.take sy
            · rw [decide_eq_true h1, decide_eq_true (Decidable.byContradiction fun h => hbad ⟨h1, h⟩)]; rfl
            · rw [decide_eq_false h1]; rfl
          have HS := Lib.hid (HSP.out.trans (if_pos (by
            rw [← HG.out]
            by_cases h1 : recs d.sectors = l.recs.take sy
            · exact .inr (Decidable.byContradiction fun h => hbad ⟨h1, h⟩)
            · exact .inl h1)))
          subst hc2
          clear hc hbad
          go_wp2_with fail
          refine bodyPost_ret (v := .tuple #[.agg #[.int .i64 0, .slice none 0 0, .int .i64 0], .agg #[.slice none 0 0, .slice none 0 0, .int .i64 0, .bool false], .int .i64 350]) (by simp [results, Try.results21, go_sem, r0, r1, r2, s0, s1, s2, s3]) rfl (RetSync.mk IsLog.zero IsDisk.zero ?_ HS.out)
          refine Below.setCell (Below.setCell (Below.setCell (Below.setCell (Below.setCell (Below.setCell (Below.setCell HS4.out.below ?_ _) ?_ _) ?_ _) ?_ _) ?_ _) ?_ _) ?_ _ <;> (simp; try omega)
end Go.Proofs.Ytocjhepiooljpaa
