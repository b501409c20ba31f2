/- The closure of WalSteps that appends records, and how Append goes on over a list. -/
import Derived.Test.YtocjhepiooljpaaZv
import Derived.Test.YtocjhepiooljpaaF2
namespace Go.Proofs.Ytocjhepiooljpaa
open Go.RowKit Go.Deep Go.Shelf

theorem fit_of_used {rs : List (List UInt8)} (h : used rs ≤ 4096) : FitR rs := by
  refine ⟨by have := used_bound rs; omega, fun i hi => ?_⟩
  have h1 := used_le_take (rs := rs) (i := i) (j := 0) hi (by have := secs_pos (rs[i]).length; omega)
  have h2 := used_take (rs := rs) (j := i) hi
  have h3 : used (rs.take (i + 1)) ≤ used rs := by
    have : used rs = used (rs.take (i + 1)) + used (rs.drop (i + 1)) := by rw [← used_append, List.take_append_drop]
    omega
  have h4 : (rs[i]).length ≤ 116 * secs (rs[i]).length := by unfold secs; omega
  omega
/-- a log in a box, what it holds outside of k boxes -/
structure LogS (w : World) (M : Nat → Prop) (D : DiskD) (acc : List (List UInt8)) (rA : Option Addr) (n rc : Nat) (W : World) : Prop where
  b0 : W.heap[w.heap.size]? = some (.cells #[.int .i64 (D.sectors.length : Int), .slice rA n rc, .int .i64 ((recs D.sectors).length : Int)] 29 (0, 0))
  b1 : W.heap[w.heap.size + 1]? = some (.cells #[.int .i64 0, .slice none 0 0, .int .i64 0] 29 (0, 0))
  below : Below w.heap.size w W
  size : w.heap.size + 2 ≤ W.heap.size
  log : IsLog W (Bx M w.heap.size 2) (.agg #[.int .i64 (D.sectors.length : Int), .slice rA n rc, .int .i64 ((recs D.sectors).length : Int)]) (logOf D acc)
theorem LogS.next {w W W' : World} {M : Nat → Prop} {D : DiskD} {acc : List (List UInt8)} {rA : Option Addr} {n rc : Nat} (h : LogS w M D acc rA n rc W) (hb : Below W.heap.size W W') : LogS w M D acc rA n rc W' :=
  ⟨(hb.block _ (lt_heap h.b0)).trans h.b0, (hb.block _ (lt_heap h.b1)).trans h.b1, h.below.trans (hb.mono h.below.size), Nat.le_trans h.size hb.size, h.log.below hb⟩
theorem LogS.store {w W : World} {M : Nat → Prop} {D : DiskD} {acc acc' : List (List UInt8)} {rA rA' : Option Addr} {n n' rc rc' : Nat} (h : LogS w M D acc rA n rc W)
    (hl : IsLog W (Bx M w.heap.size 2) (.agg #[.int .i64 (D.sectors.length : Int), .slice rA' n' rc', .int .i64 ((recs D.sectors).length : Int)]) (logOf D acc')) :
    LogS w M D acc' rA' n' rc' (((W.setCell ⟨w.heap.size, 0, none⟩ (.int .i64 (D.sectors.length : Int))).setCell ⟨w.heap.size, 1, none⟩ (.slice rA' n' rc')).setCell ⟨w.heap.size, 2, none⟩ (.int .i64 ((recs D.sectors).length : Int))) := by
  have hk : Off w.heap.size W (((W.setCell ⟨w.heap.size, 0, none⟩ (.int .i64 (D.sectors.length : Int))).setCell ⟨w.heap.size, 1, none⟩ (.slice rA' n' rc')).setCell ⟨w.heap.size, 2, none⟩ (.int .i64 ((recs D.sectors).length : Int))) := (((Off.refl _ _).setCell 0 _).setCell 1 _).setCell 2 _
  have hb := Blk_set (Blk_set (Blk_set h.b0 (j := 0) (.int .i64 (D.sectors.length : Int))) (j := 1) (.slice rA' n' rc')) (j := 2) (.int .i64 ((recs D.sectors).length : Int))
  refine ⟨by rw [hb]; rfl, ?_, ((h.below.setCell (by simp) _).setCell (by simp) _).setCell (by simp) _, by simp only [size_set]; exact h.size, hl.keep fun p hp _ => hk p (fun e => by rcases hp with hb | hb <;> omega)⟩
  rw [heap_set_if, if_neg (by omega), heap_set_if, if_neg (by omega), heap_set_if, if_neg (by omega)]
  exact h.b1
theorem form_logOf {w : World} {M : Nat → Prop} {v : Value} {D : DiskD} {acc : List (List UInt8)} (h : IsLog w M v (logOf D acc)) :
    ∃ A n c, v = .agg #[.int .i64 (D.sectors.length : Int), .slice A n c, .int .i64 ((recs D.sectors).length : Int)] ∧ IsLog w M (.agg #[.int .i64 (D.sectors.length : Int), .slice A n c, .int .i64 ((recs D.sectors).length : Int)]) (logOf D acc) := by
  obtain ⟨A, c, e, h2⟩ := h.form rfl rfl
  exact ⟨A, _, c, e, h2⟩
/-- Append at a log of a disk -/
theorem append_logOf {D : DiskD} {acc : List (List UInt8)} (hok : okB D = true) (hu : used (recs D.sectors ++ acc) ≤ D.sectors.length) (W : World) (M : Nat → Prop) (v u : Value) (b : List UInt8) (hb : b.length ≤ 140737488355328) (h : IsLog W M v (logOf D acc)) (h' : IsBytes W M u b) :
    Calls Try.prog 15 #[v, u] W (RetLogE (New M W) W (if used (recs D.sectors ++ acc) + secs b.length ≤ D.sectors.length then (logOf D (acc ++ [b]), 0) else (zeroL, 2))) := by
  have hl := okB_sized hok
  rw [← appendL_logOf hok hu hb]
  exact append_any W M _ v u b (fit_of_used (show used (recs D.sectors ++ acc) ≤ 4096 by omega)) hb h h'

set_option maxRecDepth 20000 in
set_option maxHeartbeats 4000000 in
theorem add_any (w : World) (M : Nat → Prop) (D : DiskD) (new : List (List UInt8)) (lv : Value) (h : IsLog w M lv (logOf D new)) (hok : okB D = true) (hu : used (recs D.sectors ++ new) ≤ D.sectors.length) (rs : List (List UInt8)) (rv : Value) (hr : IsMat w M rv rs) (hf : FitR rs) :
    Calls Try.prog 28 #[lv, rv] w fun e w' => ∃ v, e = .returned v ∧ IsLog w' (New M w) v (logOf D (addAll D new rs)) ∧ Below w.heap.size w w' := by
  obtain ⟨lA, ln, lc, rfl, hl⟩ := form_logOf h
  obtain ⟨rA, rc, rfl, hr1, hr2, hr3⟩ := hr
  have hfl := hf.len
  have HF := Lib.hid hf
  have HOK := Lib.hid hok
  have HU := Lib.hid hu
  have HR := Lib.hid (hr3.mono (M' := Bx M w.heap.size 2) fun b hb hM => .inl ⟨hM, hb⟩)
  have HL := Lib.hid (hl.mono (M' := Bx M w.heap.size 2) fun b hb hM => .inl ⟨hM, hb⟩)
  clear hl hr3 h hok hf hu
  go_enter Try.func28, Try.ntmps28
  go_wp2_with fail
  refine nameC fun W1 hW1 => ?_
  have hB1 : Below w.heap.size w W1 := by rw [hW1.out]; exact ((Below.refl _ _).alloc (Nat.le_refl _) _).alloc (by simp) _
  have HS1 := Lib.hid (show LogS w M D new lA ln lc W1 from ⟨by rw [hW1.out]; exact heap2_0 _ _ _, by rw [hW1.out]; exact heap2_1 _ _ _, hB1, by rw [hW1.out]; simp, HL.out.keep fun p _ hp => hB1.cell hp⟩)
  clear hW1 hB1 HL
  go_loopw [11] (fun i wr => ∃ k : Nat, k ≤ rs.length ∧ i = .int .i64 (k : Int) ∧ Hid (∃ A n c, LogS w M D (addAll D new (rs.take k)) A n c wr)) (fun i _ => rs.length - (intOf i).toNat)
  case atStart => exact ⟨0, Nat.zero_le _, rfl, Lib.hid ⟨_, _, _, HS1.out⟩⟩
  case round =>
    clear HS1
    obtain ⟨k, hk, rfl, HE⟩ := hrel
    obtain ⟨A, n, c, hS⟩ := id HE.out
    have HS := Lib.hid hS
    clear hS
    have c0 := cell_of (j := 0) HS.out.b0 rfl
    have c1 := cell_of (j := 1) HS.out.b0 rfl
    have c2 := cell_of (j := 2) HS.out.b0 rfl
    by_cases hlt : k < rs.length
    · obtain ⟨q, off, bA, bc, rfl, hbl, hck, hb1, hb2, hb3⟩ := (HR.out.keep fun p _ hp => HS.out.below.cell hp).at_ (Below.refl wr.heap.size wr) hlt
      obtain ⟨acc, hacc⟩ : ∃ acc, acc = addAll D new (rs.take k) := ⟨_, rfl⟩
      rw [← hacc] at HS
      have hsn := addAll_snoc D new rs k hlt
      rw [← hacc] at hsn
      have hfit : used (recs D.sectors ++ acc) ≤ D.sectors.length := by rw [hacc]; exact addAll_fit HU.out _
      have CA := Lib.hid (append_logOf HOK.out hfit wr _ _ (.slice bA (rs[k]).length bc) rs[k] (HF.out.lens k hlt) HS.out.log ⟨bA, bc, rfl, hb1, hb2, hb3⟩)
      obtain ⟨b, hb⟩ : ∃ b, b = rs[k] := ⟨_, rfl⟩
      rw [← hb] at hck hb1 CA hsn
      have HB := Lib.hid hb
      have hk0 : (0 : Int) ≤ (k : Int) := by omega
      have hk1 : (k : Int) < (rs.length : Int) := by omega
      have hsz := HS.out.size
      clear hb3 hb hacc hfit HE
      by_cases hb : used (recs D.sectors ++ acc) + secs b.length ≤ D.sectors.length
      · rw [if_pos hb] at CA hsn
        have HSN := Lib.hid hsn
        clear hb hsn
        go_wp2_with (go_at_call 15; refine CA.out.mono ?_; rintro e w5 ⟨v5, rfl, hl5, hb5⟩; obtain ⟨A5, n5, c5, rfl, hl5⟩ := form_logOf hl5; have HS5 := Lib.hid (HS.out.next hb5); have HL5 := Lib.hid (hl5.mono (M' := Bx M w.heap.size 2) fun q _ hq => Bx.new hsz hq); have hsz5 := HS5.out.size; have hlt5 := lt_heap HS5.out.b0; have hne5 : ¬ w.heap.size = w5.heap.size := (by omega); have d0 := cell_of (j := 0) HS5.out.b0 rfl; have d1 := cell_of (j := 1) HS5.out.b0 rfl; have d2 := cell_of (j := 2) HS5.out.b0 rfl; have y0 : w5.frozen? ⟨w.heap.size, 0, none⟩ = false := (by simp [World.frozen?, HS5.out.b0]); have y1 : w5.frozen? ⟨w.heap.size, 1, none⟩ = false := (by simp [World.frozen?, HS5.out.b0]); have y2 : w5.frozen? ⟨w.heap.size, 2, none⟩ = false := (by simp [World.frozen?, HS5.out.b0]); clear hl5 hb5)
        go_roundw
        case rel => exact ⟨k + 1, by omega, rfl, Lib.hid ⟨_, _, _, by
          rw [HSN.out, HB.out]
          exact (HS5.out.store (HB.out ▸ HL5.out)).next ((Below.refl _ _).alloc (Nat.le_refl _) _)⟩⟩
        case measure => simp [intOf]; omega
      · rw [if_neg hb] at CA hsn
        have HSN := Lib.hid hsn
        clear hb hsn
        go_wp2_with (go_at_call 15; refine CA.out.mono ?_; rintro e w5 ⟨v5, rfl, hl5, hb5⟩; obtain ⟨A5, c5, rfl, hl5⟩ := hl5.form (n := 0) (s := 0) rfl rfl; have HS5 := Lib.hid (HS.out.next hb5); clear hl5 hb5)
        go_roundw
        case rel => exact ⟨k + 1, by omega, rfl, Lib.hid ⟨_, _, _, by
          rw [HSN.out]
          exact HS5.out.next ((Below.refl _ _).alloc (Nat.le_refl _) _)⟩⟩
        case measure => simp [intOf]; omega
    · have hk1 : ¬ (k : Int) < (rs.length : Int) := by omega
      obtain rfl : k = rs.length := by omega
      rw [List.take_length] at HS
      have e0 := cell_of (j := 0) HS.out.b1 rfl
      have e1 := cell_of (j := 1) HS.out.b1 rfl
      have e2 := cell_of (j := 2) HS.out.b1 rfl
      have y0 : wr.frozen? ⟨w.heap.size + 1, 0, none⟩ = false := by simp [World.frozen?, HS.out.b1]
      have y1 : wr.frozen? ⟨w.heap.size + 1, 1, none⟩ = false := by simp [World.frozen?, HS.out.b1]
      have y2 : wr.frozen? ⟨w.heap.size + 1, 2, none⟩ = false := by simp [World.frozen?, HS.out.b1]
      clear HE
      go_wp2_with fail
      obtain ⟨W', hW'⟩ : ∃ W', W' = (((wr.setCell ⟨w.heap.size + 1, 0, none⟩ (.int .i64 (D.sectors.length : Int))).setCell ⟨w.heap.size + 1, 1, none⟩ (.slice A n c)).setCell ⟨w.heap.size + 1, 2, none⟩ (.int .i64 ((recs D.sectors).length : Int))) := ⟨_, rfl⟩
      have hb : W'.heap[w.heap.size + 1]? = some (.cells #[.int .i64 (D.sectors.length : Int), .slice A n c, .int .i64 ((recs D.sectors).length : Int)] 29 (0, 0)) := by
        have := Blk_set (Blk_set (Blk_set HS.out.b1 (j := 0) (.int .i64 (D.sectors.length : Int))) (j := 1) (.slice A n c)) (j := 2) (.int .i64 ((recs D.sectors).length : Int))
        rw [hW', this]; rfl
      have k0 := cell_of (j := 0) hb rfl
      have k1 := cell_of (j := 1) hb rfl
      have k2 := cell_of (j := 2) hb rfl
      have hk : Off (w.heap.size + 1) wr W' := by rw [hW']; exact (((Off.refl _ _).setCell 0 _).setCell 1 _).setCell 2 _
      have hbl : Below w.heap.size w W' := by rw [hW']; exact ((HS.out.below.setCell (by simp) _).setCell (by simp) _).setCell (by simp) _
      have hl9 := (HS.out.log.keep fun p hp _ => hk p (fun e => by rcases hp with hb | hb <;> omega)).mono (M' := New M w) fun b _ hb => hb.out
      rw [← hW']
      exact bodyPost_ret (v := .agg #[.int .i64 (D.sectors.length : Int), .slice A n c, .int .i64 ((recs D.sectors).length : Int)]) (by simp [results, Try.results28, go_sem, k0, k1, k2]) rfl ⟨_, rfl, hl9, hbl⟩
end Go.Proofs.Ytocjhepiooljpaa
