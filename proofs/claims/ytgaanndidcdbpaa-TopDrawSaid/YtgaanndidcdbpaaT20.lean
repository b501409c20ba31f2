/- play: a step after the commitments. -/
import Derived.Test.YtgaanndidcdbpaaZL
import Derived.Test.YtgaanndidcdbpaaZJ
import Derived.Test.YtgaanndidcdbpaaZD
import Derived.BigQuiet
namespace Go.Proofs.Ytgaanndidcdbpaa
open Go.RowKit Go.Shelf

def shN (l : List (Nat × Nat)) (i : Nat) : Nat × Nat := l.getD i (0, 0)
def playC (b : BeaD) (cl : List Int) (ps : List (List Nat)) (c f : Nat) : BeaD × Bool :=
  if c = f then
    if (revealD b ⟨nthI cl c, (polN ps c).getD 0 0⟩).2 = 0 then ((revealD b ⟨nthI cl c, (polN ps c).getD 0 0⟩).1, true) else (b, (revealD b ⟨nthI cl c, (polN ps c).getD 0 0⟩).2 == 240)
  else if (splitD (polN ps c) cl.length).2 ≠ 0 ∨ (splitD (polN ps c) cl.length).1.length ≠ cl.length then (b, false)
  else if (openD b ⟨nthI cl c, nthI cl f, shN (splitD (polN ps c) cl.length).1 f⟩).2 = 0 then ((openD b ⟨nthI cl c, nthI cl f, shN (splitD (polN ps c) cl.length).1 f⟩).1, true) else (b, (openD b ⟨nthI cl c, nthI cl f, shN (splitD (polN ps c) cl.length).1 f⟩).2 == 240)
def playD (b : BeaD) (cl : List Int) (ps : List (List Nat)) (sc sf : Nat) : BeaD × Bool := playC b cl ps (sc % cl.length) (sf % cl.length)
def PlayE (w : World) (M : Nat → Prop) (R : BeaD × Bool) (e : Ending) (w' : World) : Prop := ∃ v, e = .returned (.tuple #[v, .bool R.2]) ∧ IsBea w' (fun q => M q ∨ w.heap.size ≤ q) v R.1 ∧ Below w.heap.size w w'
set_option maxRecDepth 100000 in
set_option maxHeartbeats 8000000 in
theorem play_any (w : World) (M M' M'' : Nat → Prop) (v v1 v2 : Value) (b : BeaD) (cl : List Int) (ps : List (List Nat)) (sc sf : Nat) (hb : IsBea w M v b) (hs : SmallB b) (ha : IsInts w M' v1 cl) (hp : IsPol w M'' v2 ps) (hw : ∀ i, i < cl.length → W64 (nthI cl i)) (hu : ∀ i, i < ps.length → U64s (polN ps i))
    (hcl : 1 ≤ cl.length ∧ cl.length ≤ 1000) (hpl : ps.length = cl.length) (hpn : ∀ i, i < ps.length → 1 ≤ (polN ps i).length) (hsc : sc < 256) (hsf : sf < 256) :
    Calls Try.prog 12 #[v, v1, v2, .agg #[.int .u8 (sc : Int), .int .u8 (sf : Int)]] w (PlayE w M (playD b cl ps sc sf)) := by
  have HBE := Lib.hid (IsBea.mono (M' := fun q => q < w.heap.size ∧ M q) hb (fun q h1 h2 => ⟨h1, h2⟩))
  have HS := Lib.hid hs
  have HA := Lib.hid ha
  have HP := Lib.hid hp
  have HU := Lib.hid hu
  have HWW := Lib.hid hw
  have HPN := Lib.hid hpn
  obtain ⟨aA, ac, rfl, -⟩ := ha
  obtain ⟨bA, bc, rfl, -, hbc⟩ := hp.len
  obtain ⟨y0, y1, y2, y3, y4, y5, y6, y7, y8, y9, y10, y11, y12, y13, rfl⟩ := hb.shape
  obtain ⟨n, hn⟩ : ∃ n, n = cl.length := ⟨_, rfl⟩
  have HN := Lib.hid hn
  obtain ⟨R, hR⟩ : ∃ R, R = playD b cl ps sc sf := ⟨_, rfl⟩
  have HR : Hid (R = playC b cl ps (sc % n) (sf % n)) := Lib.hid (by rw [hR, hn]; rfl)
  rw [← hR]
  rw [← hn] at hcl hpl ⊢
  rw [hpl]
  obtain ⟨hn1, hn2⟩ := hcl
  have HPL := Lib.hid hpl
  clear hb hs hp hw hu hpn hR hn hbc hpl
  obtain ⟨c, hc⟩ : ∃ c, c = sc % n := ⟨_, rfl⟩
  obtain ⟨f, hf⟩ : ∃ f, f = sf % n := ⟨_, rfl⟩
  rw [← hc, ← hf] at HR
  have hcn : c < n := by rw [hc]; exact Nat.mod_lt _ hn1
  have hfn : f < n := by rw [hf]; exact Nat.mod_lt _ hn1
  have hnz : (n : Int) ≠ 0 := by omega
  have HCF := Lib.hid (And.intro hc hf)
  clear hc hf
  go_enter Try.func12, Try.ntmps12
  go_upto_region 1 with fail
  refine nameC fun W1 hW1 => ?_
  have hb1 : Below w.heap.size w W1 := by rw [hW1.out]; exact (((Below.refl _ _).alloc (Nat.le_refl _) _).alloc (by simp) _).alloc (by simp; omega) _
  have hz1 : W1.heap.size = w.heap.size + 3 := by rw [hW1.out]; simp
  have k0 : W1.heap[w.heap.size]? = some (.cells #[.slice y0 y1 y2, .int .i64 y3, .int .u64 y4, .slice y5 y6 y7, .slice y8 y9 y10, .slice y11 y12 y13] 32 (0, 0)) := by rw [hW1.out]; simp only [heap_alloc_if, World.size_alloc]; rw [if_neg (by omega)]; rw [if_neg (by omega)]; rw [if_pos trivial]
  have k1 : W1.heap[w.heap.size + 1]? = some (.cells #[.int .u8 (sc : Int), .int .u8 (sf : Int)] 37 (0, 0)) := by rw [hW1.out]; simp only [heap_alloc_if, World.size_alloc]; rw [if_neg (by omega)]; rw [if_pos trivial]
  have k2 : W1.heap[w.heap.size + 1 + 1]? = some (.cells #[.slice none 0 0, .int .i64 0, .int .u64 0, .slice none 0 0, .slice none 0 0, .slice none 0 0] 32 (0, 0)) := by rw [hW1.out]; simp only [heap_alloc_if, World.size_alloc]; rw [if_pos trivial]
  have HK0 := Lib.hid k0
  have HK2 := Lib.hid k2
  have HB1 := Lib.hid hb1
  have d0 := cell_of (j := 0) k1 rfl
  have d1 := cell_of (j := 1) k1 rfl
  obtain ⟨B2, hB2⟩ : ∃ B, B = w.heap.size + 1 + 1 := ⟨_, rfl⟩
  rw [← hB2] at HK2 ⊢
  have HZ := Lib.hid (And.intro hB2 hz1)
  clear hW1 hb1 hz1 k0 k1 k2 hB2
  go_quiet (fail)
  have ec : (sc : Int) % (n : Int) = (c : Int) := by rw [HCF.out.1]; rfl
  have ef : (sf : Int) % (n : Int) = (f : Int) := by rw [HCF.out.2]; rfl
  rw [ec, ef]
  clear d0 d1 ec ef
  by_cases hcf : c = f
  · subst hcf
    have HRC : Hid (R = if (revealD b ⟨nthI cl c, (polN ps c).getD 0 0⟩).2 = 0 then ((revealD b ⟨nthI cl c, (polN ps c).getD 0 0⟩).1, true) else (b, (revealD b ⟨nthI cl c, (polN ps c).getD 0 0⟩).2 == 240)) := Lib.hid (by rw [HR.out]; unfold playC; rw [if_pos rfl])
    go_upto_region 3 with fail
    refine nameC fun W2 hW2 => ?_
    have hb2 : Below w.heap.size w W2 := by rw [hW2.out]; exact (below_drewN HB1.out _)
    have hs2 : W2.heap.size = w.heap.size + 3 := by rw [hW2.out]; exact HZ.out.2
    have hk02 : W2.heap[w.heap.size]? = W1.heap[w.heap.size]? := by rw [hW2.out]; rfl
    have hk22 : W2.heap[B2]? = W1.heap[B2]? := by rw [hW2.out]; rfl
    have HK02 := Lib.hid (hk02.trans HK0.out)
    have HK22 := Lib.hid (hk22.trans HK2.out)
    have HB2 := Lib.hid hb2
    have HZ2 := Lib.hid hs2
    obtain ⟨b1, o1, vA, vc, rfl, hb1, hc1, hkv⟩ := HP.out.at_ hb2 (show c < ps.length by rw [HPL.out]; exact hcn)
    have hp1 : 0 < (polN ps c).length := HPN.out c (by rw [HPL.out]; exact hcn)
    obtain ⟨b3, o3, rfl, hb3, hc3⟩ := IsU64.at_ hkv (Below.refl _ _) hp1
    rw [show (polN ps c)[0] = (polN ps c).getD 0 0 by rw [List.getD_eq_getElem?_getD, List.getElem?_eq_getElem hp1]; rfl] at hc3
    obtain ⟨b2, o2, rfl, hb2', hcl2⟩ := HA.out.at_ hb2 (show c < cl.length by rw [← HN.out]; exact hcn)
    have hnum : (polN ps c).getD 0 0 < 18446744073709551616 := (HU.out c (by rw [HPL.out]; exact hcn)).getD 0
    have hw64 : W64 (nthI cl c) := HWW.out c (by rw [← HN.out]; exact hcn)
    have D1 := Lib.hid (fun (W : World) (hW : Below W2.heap.size W2 W) => Lib.hid (reveal_any W _ _ b ⟨nthI cl c, (polN ps c).getD 0 0⟩ (HBE.out.below (HB2.out.trans (hW.mono HB2.out.size))) HS.out hw64 hnum))
    obtain ⟨rz, hrz⟩ : ∃ z, z = revealD b ⟨nthI cl c, (polN ps c).getD 0 0⟩ := ⟨_, rfl⟩
    rw [← hrz] at D1 HRC
    dsimp only at D1
    obtain ⟨xk, hxk⟩ : ∃ z, z = nthI cl c := ⟨_, rfl⟩
    obtain ⟨nu, hnu⟩ : ∃ z, z = (polN ps c).getD 0 0 := ⟨_, rfl⟩
    obtain ⟨ln, hln⟩ : ∃ z, z = (polN ps c).length := ⟨_, rfl⟩
    rw [← hxk] at hcl2 D1
    rw [← hnu] at hc3 D1
    rw [← hln] at hc1 hp1
    have HC := Lib.hid (show ∀ W', Below W2.heap.size W2 W' → (W'.cell? ⟨w.heap.size, 0, none⟩ = some (.slice y0 y1 y2) ∧ W'.cell? ⟨w.heap.size, 1, none⟩ = some (.int .i64 y3) ∧ W'.cell? ⟨w.heap.size, 2, none⟩ = some (.int .u64 y4) ∧ W'.cell? ⟨w.heap.size, 3, none⟩ = some (.slice y5 y6 y7) ∧ W'.cell? ⟨w.heap.size, 4, none⟩ = some (.slice y8 y9 y10) ∧ W'.cell? ⟨w.heap.size, 5, none⟩ = some (.slice y11 y12 y13) ∧ W'.cell? ⟨b2, o2 + c, none⟩ = some (.int .i64 xk) ∧ W'.cell? ⟨b1, o1 + c, none⟩ = some (.slice (some ⟨b3, o3, none⟩) ln vc) ∧ W'.cell? ⟨b3, o3, none⟩ = some (.int .u64 (nu : Int))) from fun W' h => by
      have e0 := (h.block _ (lt_heap HK02.out)).trans HK02.out
      exact ⟨cell_of e0 rfl, cell_of e0 rfl, cell_of e0 rfl, cell_of e0 rfl, cell_of e0 rfl, cell_of e0 rfl, (h.cell (p := ⟨b2, o2 + c, none⟩) (lt_of_cell hcl2)).trans hcl2, (h.cell (p := ⟨b1, o1 + c, none⟩) (lt_of_cell hc1)).trans hc1, (h.cell (p := ⟨b3, o3 + 0, none⟩) (lt_of_cell hc3)).trans hc3⟩)
    have hcz : (0 : Int) ≤ (c : Int) := by omega
    have hcz1 : (c : Int) < (n : Int) := by omega
    have hl0 : (0 : Int) < (ln : Int) := by omega
    clear hb2 hs2 hk02 hk22 hb1 hc1 hkv hb3 hc3 hb2' hcl2 hnum hw64 hrz hxk hnu hln hW2 hcn hfn
    refine anyL_begin (z := 17) (S := fun W9 => Below W2.heap.size W2 W9) (by kernel_rfl) (Below.drew (Below.refl _ _)) (fun hHeld => ?_)
    refine AnyL.take (i := 0) (v := ?_) rfl (by kernel_rfl) (by kernel_rfl) (fun _ _ _ h => h) (by kernel_rfl) (by kernel_rfl) (by kernel_rfl) (Or.inl ⟨by rfl, ?_⟩) hHeld ?_
    rotate_left 1
    focus (intro w hSw; (try dsimp only at hSw); obtain ⟨c0, c1, c2, c3, c4, c5, ck, cv, cn⟩ := HC.out w hSw; go_simp; (try with_reducible rfl))
    (repeat (first | simp only [Act.put] | simp only [List.setIfInBounds_toArray] | simp only [List.set_cons_zero] | simp only [List.set_cons_succ]))
    refine AnyL.take (i := 1) (v := ?_) rfl (by kernel_rfl) (by kernel_rfl) (fun _ _ _ h => h) (by kernel_rfl) (by kernel_rfl) (by kernel_rfl) (Or.inl ⟨by rfl, ?_⟩) hHeld ?_
    rotate_left 1
    focus (intro w hSw; (try dsimp only at hSw); go_simp; (try with_reducible rfl))
    (repeat (first | simp only [Act.put] | simp only [List.setIfInBounds_toArray] | simp only [List.set_cons_zero] | simp only [List.set_cons_succ]))
    refine AnyL.take (i := 2) (v := ?_) rfl (by kernel_rfl) (by kernel_rfl) (fun _ _ _ h => h) (by kernel_rfl) (by kernel_rfl) (by kernel_rfl) (Or.inl ⟨by rfl, ?_⟩) hHeld ?_
    rotate_left 1
    focus (intro w hSw; (try dsimp only at hSw); go_simp; (try with_reducible rfl))
    (repeat (first | simp only [Act.put] | simp only [List.setIfInBounds_toArray] | simp only [List.set_cons_zero] | simp only [List.set_cons_succ]))
    refine AnyL.take (i := 3) (v := ?_) rfl (by kernel_rfl) (by kernel_rfl) (fun _ _ _ h => h) (by kernel_rfl) (by kernel_rfl) (by kernel_rfl) (Or.inl ⟨by rfl, ?_⟩) hHeld ?_
    rotate_left 1
    focus (intro w hSw; (try dsimp only at hSw); go_simp; (try with_reducible rfl))
    (repeat (first | simp only [Act.put] | simp only [List.setIfInBounds_toArray] | simp only [List.set_cons_zero] | simp only [List.set_cons_succ]))
    refine AnyL.take (i := 4) (v := ?_) rfl (by kernel_rfl) (by kernel_rfl) (fun _ _ _ h => h) (by kernel_rfl) (by kernel_rfl) (by kernel_rfl) (Or.inl ⟨by rfl, ?_⟩) hHeld ?_
    rotate_left 1
    focus (intro w hSw; (try dsimp only at hSw); obtain ⟨c0, c1, c2, c3, c4, c5, ck, cv, cn⟩ := HC.out w hSw; go_simp; (try with_reducible rfl))
    (repeat (first | simp only [Act.put] | simp only [List.setIfInBounds_toArray] | simp only [List.set_cons_zero] | simp only [List.set_cons_succ]))
    refine AnyL.take (i := 5) (v := ?_) rfl (by kernel_rfl) (by kernel_rfl) (fun _ _ _ h => h) (by kernel_rfl) (by kernel_rfl) (by kernel_rfl) (Or.inl ⟨by rfl, ?_⟩) hHeld ?_
    rotate_left 1
    focus (intro w hSw; (try dsimp only at hSw); go_simp; (try with_reducible rfl))
    (repeat (first | simp only [Act.put] | simp only [List.setIfInBounds_toArray] | simp only [List.set_cons_zero] | simp only [List.set_cons_succ]))
    refine AnyL.take (i := 6) (v := ?_) rfl (by kernel_rfl) (by kernel_rfl) (fun _ _ _ h => h) (by kernel_rfl) (by kernel_rfl) (by kernel_rfl) (Or.inl ⟨by rfl, ?_⟩) hHeld ?_
    rotate_left 1
    focus (intro w hSw; (try dsimp only at hSw); go_simp; (try with_reducible rfl))
    (repeat (first | simp only [Act.put] | simp only [List.setIfInBounds_toArray] | simp only [List.set_cons_zero] | simp only [List.set_cons_succ]))
    refine AnyL.take (i := 7) (v := ?_) rfl (by kernel_rfl) (by kernel_rfl) (fun _ _ _ h => h) (by kernel_rfl) (by kernel_rfl) (by kernel_rfl) (Or.inl ⟨by rfl, ?_⟩) hHeld ?_
    rotate_left 1
    focus (intro w hSw; (try dsimp only at hSw); go_simp; (try with_reducible rfl))
    (repeat (first | simp only [Act.put] | simp only [List.setIfInBounds_toArray] | simp only [List.set_cons_zero] | simp only [List.set_cons_succ]))
    refine AnyL.take (i := 8) (v := ?_) rfl (by kernel_rfl) (by kernel_rfl) (fun _ _ _ h => h) (by kernel_rfl) (by kernel_rfl) (by kernel_rfl) (Or.inl ⟨by rfl, ?_⟩) hHeld ?_
    rotate_left 1
    focus (intro w hSw; (try dsimp only at hSw); obtain ⟨c0, c1, c2, c3, c4, c5, ck, cv, cn⟩ := HC.out w hSw; go_simp; (try with_reducible rfl))
    (repeat (first | simp only [Act.put] | simp only [List.setIfInBounds_toArray] | simp only [List.set_cons_zero] | simp only [List.set_cons_succ]))
    refine AnyL.take (i := 9) (v := ?_) rfl (by kernel_rfl) (by kernel_rfl) (fun _ _ _ h => h) (by kernel_rfl) (by kernel_rfl) (by kernel_rfl) (Or.inl ⟨by rfl, ?_⟩) hHeld ?_
    rotate_left 1
    focus (intro w hSw; (try dsimp only at hSw); go_simp; (try with_reducible rfl))
    (repeat (first | simp only [Act.put] | simp only [List.setIfInBounds_toArray] | simp only [List.set_cons_zero] | simp only [List.set_cons_succ]))
    refine AnyL.take (i := 10) (v := ?_) rfl (by kernel_rfl) (by kernel_rfl) (fun _ _ _ h => h) (by kernel_rfl) (by kernel_rfl) (by kernel_rfl) (Or.inl ⟨by rfl, ?_⟩) hHeld ?_
    rotate_left 1
    focus (intro w hSw; (try dsimp only at hSw); obtain ⟨c0, c1, c2, c3, c4, c5, ck, cv, cn⟩ := HC.out w hSw; go_simp; (try with_reducible rfl))
    (repeat (first | simp only [Act.put] | simp only [List.setIfInBounds_toArray] | simp only [List.set_cons_zero] | simp only [List.set_cons_succ]))
    refine AnyL.take (i := 11) (v := ?_) rfl (by kernel_rfl) (by kernel_rfl) (fun _ _ _ h => h) (by kernel_rfl) (by kernel_rfl) (by kernel_rfl) (Or.inl ⟨by rfl, ?_⟩) hHeld ?_
    rotate_left 1
    focus (intro w hSw; (try dsimp only at hSw); go_simp; (try with_reducible rfl))
    (repeat (first | simp only [Act.put] | simp only [List.setIfInBounds_toArray] | simp only [List.set_cons_zero] | simp only [List.set_cons_succ]))
    have HBa : Hid (Below W2.heap.size W2 W2.drew) := Lib.hid (Below.drew (Below.refl _ _))
    have HSd : Hid (W2.drew.heap.size = W2.heap.size) := Lib.hid (show _ = _ from rfl)
    refine AnyL.two (i := 12) (j := 16) (by kernel_rfl) rfl rfl (fun K hK => ?_) (fun K hK => ?_)
    · skip
      go_simp
      go_at_call 15
      refine ((D1.out _ HBa.out).out).mono ?_
      rintro e w7 ⟨bv, rfl, hbv, hb7⟩
      have hb7w := HBa.out.trans (hb7.mono HBa.out.size)
      have HB7 := Lib.hid hb7w
      obtain ⟨gn, hgn⟩ : ∃ g, g = w7.heap.size := ⟨_, rfl⟩
      have HGN : Hid (W2.heap.size ≤ gn) := Lib.hid (by rw [hgn]; exact hb7w.size)
      have hgs := HSd.out
      have hbv := IsBea.mono (M' := fun q => (M q ∨ w.heap.size ≤ q) ∧ q ≠ B2 ∧ q ≠ gn) hbv (fun q hql hq => by
        have zz1 := HZ.out.1
        have zz2 := HZ2.out
        have zz3 := HGN.out
        rcases hq with hq | hq
        · exact ⟨Or.inl hq.2, by have := hq.1; omega, by have := hq.1; omega⟩
        · have hq' : W2.drew.heap.size ≤ q := hq
          exact ⟨Or.inr (by omega), by omega, by omega⟩)
      obtain ⟨z0, z1, z2, z3, z4, z5, z6, z7, z8, z9, z10, z11, z12, z13, rfl⟩ := hbv.shape
      have HBV7 := Lib.hid hbv
      have HGE := Lib.hid hgn
      clear hbv hb7 hb7w hgs hgn
      refine hK.out _ _ (fun _ => HB7.out) (fun hHeld => ?_)
      replace hHeld := hHeld (by kernel_rfl)
      clear hK K
      (repeat (first | simp only [Act.put] | simp only [List.setIfInBounds_toArray] | simp only [List.set_cons_zero] | simp only [List.set_cons_succ]))
      refine AnyL.take (i := 13) (v := ?_) rfl (by kernel_rfl) (by kernel_rfl) (fun _ _ _ h => h) (by kernel_rfl) (by kernel_rfl) (by kernel_rfl) (Or.inl ⟨by rfl, ?_⟩) hHeld ?_
      rotate_left 1
      focus (intro w hSw; (try dsimp only at hSw); go_simp; (try with_reducible rfl))
      (repeat (first | simp only [Act.put] | simp only [List.setIfInBounds_toArray] | simp only [List.set_cons_zero] | simp only [List.set_cons_succ]))
      refine AnyL.take (i := 14) (v := ?_) rfl (by kernel_rfl) (by kernel_rfl) (fun _ _ _ h => h) (by kernel_rfl) (by kernel_rfl) (by kernel_rfl) (Or.inl ⟨by rfl, ?_⟩) hHeld ?_
      rotate_left 1
      focus (intro w hSw; (try dsimp only at hSw); go_simp; (try with_reducible rfl))
      (repeat (first | simp only [Act.put] | simp only [List.setIfInBounds_toArray] | simp only [List.set_cons_zero] | simp only [List.set_cons_succ]))
      refine AnyL.late (i := 15) (v := ?_) rfl (by kernel_rfl) (by kernel_rfl) (fun _ _ _ h => h) (by kernel_rfl) (by kernel_rfl) (Or.inl ⟨by rfl, ?_⟩) (fun _ => hHeld) ?_
      rotate_left 1
      focus (intro w hSw; (try dsimp only at hSw); go_simp; (try with_reducible rfl))
      (repeat (first | simp only [Act.put] | simp only [List.setIfInBounds_toArray] | simp only [List.set_cons_zero] | simp only [List.set_cons_succ]))
      refine AnyL.one (i := 16) (by kernel_rfl) rfl (fun K hK => ?_)
      go_simp
      refine nameG (w := w7.alloc (.cells #[.slice none 0 0, .int .i64 0, .int .u64 0, .slice none 0 0, .slice none 0 0, .slice none 0 0] 32)) (p := fun W => K _ W) fun w8 hw8 => ?_
      have hb8w : Below w7.heap.size w7 w8 := by rw [hw8.out]; exact (Below.refl _ _).alloc (Nat.le_refl _) _
      have g8 : w8.heap[gn]? = some (.cells #[.slice none 0 0, .int .i64 0, .int .u64 0, .slice none 0 0, .slice none 0 0, .slice none 0 0] 32 (0, 0)) := by rw [hw8.out, HGE.out]; exact heap_alloc_new _ _
      rw [← HGE.out]
      have HB8 := Lib.hid (HB7.out.trans (hb8w.mono HB7.out.size))
      have HBV8 := Lib.hid (HBV7.out.below hb8w)
      have G8 := Lib.hid g8
      obtain ⟨⟨c0, c1, c2, c3, c4, c5⟩, ⟨f0, f1, f2, f3, f4, f5⟩⟩ := blk6 g8
      clear hb8w g8 hw8 HBV7 HB7
      refine hK.out _ _ (fun _ => HB8.out) (fun hHeld => ?_)
      replace hHeld := hHeld (by kernel_rfl)
      clear hK K
      (repeat (first | simp only [Act.put] | simp only [List.setIfInBounds_toArray] | simp only [List.set_cons_zero] | simp only [List.set_cons_succ]))
      refine AnyL.one (i := 17) (by kernel_rfl) rfl (fun K hK => ?_)
      go_simp
      refine hK.out _ _ (fun h => nomatch (show true = false from h)) (fun _ => ?_)
      clear hK K
      (try dsimp only)
      refine AnyL.one (i := 18) (by kernel_rfl) rfl (fun K hK => ?_)
      go_simp
      refine hK.out _ _ (fun h => nomatch (show true = false from h)) (fun _ => ?_)
      clear hK K
      (try dsimp only)
      refine AnyL.done (by kernel_rfl) ?_
      clear c0 c1 c2 c3 c4 c5 f0 f1 f2 f3 f4 f5
      go_upto_region 4 with fail
      refine nameC fun W9 hW9 => ?_
      have hw9 : W9 = w6 w8 gn (.slice z0 z1 z2) (.int .i64 z3) (.int .u64 z4) (.slice z5 z6 z7) (.slice z8 z9 z10) (.slice z11 z12 z13) := hW9.out
      have hk9 : W9.heap[gn]? = some (.cells #[.slice z0 z1 z2, .int .i64 z3, .int .u64 z4, .slice z5 z6 z7, .slice z8 z9 z10, .slice z11 z12 z13] 32 (0, 0)) := by rw [hw9]; exact w6_at G8.out _ _ _ _ _ _
      have zz1 := HZ.out.1
      have zz2 := HZ2.out
      have zz3 := HGN.out
      have hk09 : W9.heap[w.heap.size]? = some (.cells #[.slice y0 y1 y2, .int .i64 y3, .int .u64 y4, .slice y5 y6 y7, .slice y8 y9 y10, .slice y11 y12 y13] 32 (0, 0)) := by rw [hw9, w6_other (by omega)]; exact (HB8.out.block _ (by omega)).trans HK02.out
      have hk29 : W9.heap[B2]? = some (.cells #[.slice none 0 0, .int .i64 0, .int .u64 0, .slice none 0 0, .slice none 0 0, .slice none 0 0] 32 (0, 0)) := by rw [hw9, w6_other (by omega)]; exact (HB8.out.block _ (by omega)).trans HK22.out
      have K9 := Lib.hid hk9
      have K09 := Lib.hid hk09
      have K29 := Lib.hid hk29
      have HB9 : Hid (Below w.heap.size w W9) := Lib.hid (by rw [hw9]; exact w6_below (HB2.out.trans (HB8.out.mono HB2.out.size)) (by omega) _ _ _ _ _ _)
      have HBV9 : Hid (IsBea W9 (fun q => (M q ∨ w.heap.size ≤ q) ∧ q ≠ B2 ∧ q ≠ gn) (.agg #[.slice z0 z1 z2, .int .i64 z3, .int .u64 z4, .slice z5 z6 z7, .slice z8 z9 z10, .slice z11 z12 z13]) rz.1) := Lib.hid (by rw [hw9]; exact HBV8.out.keep fun p hp _ => World.cell?_of_block (w := w8) (w6_other hp.2.2 _ _ _ _ _ _))
      have hne29 : B2 ≠ gn := by omega
      have hne09 : w.heap.size ≠ gn := by omega
      have hne02 : w.heap.size ≠ B2 := by omega
      clear HB8 HBV8 G8 hw9 hk9 hk09 hk29 hW9 zz1 zz2 zz3
      obtain ⟨re, hre⟩ : ∃ z, z = rz.2 := ⟨_, rfl⟩
      have HRE := Lib.hid hre
      rw [← hre]
      clear hre
      obtain ⟨⟨a0, a1, a2, a3, a4, a5⟩, ⟨p0, p1, p2, p3, p4, p5⟩⟩ := blk6 K09.out
      obtain ⟨⟨b0, b1, b2, b3, b4, b5⟩, ⟨q0, q1, q2, q3, q4, q5⟩⟩ := blk6 K29.out
      obtain ⟨⟨c0, c1, c2, c3, c4, c5⟩, ⟨f0, f1, f2, f3, f4, f5⟩⟩ := blk6 K9.out
      by_cases hre0 : re = 0
      · subst hre0
        have HRR : Hid (R = (rz.1, true)) := Lib.hid (by rw [HRC.out, if_pos HRE.out.symm])
        go_wp2_with fail
        refine nameG (p := fun W => bodyPost Try.prog Try.f12 _ Exit.ret _ W) fun W7 hW7 => ?_
        have hk7 : W7.heap[B2]? = some (.cells #[.slice z0 z1 z2, .int .i64 z3, .int .u64 z4, .slice z5 z6 z7, .slice z8 z9 z10, .slice z11 z12 z13] 32 (0, 0)) := by
          have hx := (Blk_set (Blk_set (Blk_set (Blk_set (Blk_set (Blk_set K29.out (j := 0) (.slice z0 z1 z2)) (j := 1) (.int .i64 z3)) (j := 2) (.int .u64 z4)) (j := 3) (.slice z5 z6 z7)) (j := 4) (.slice z8 z9 z10)) (j := 5) (.slice z11 z12 z13))
          rw [hW7.out, hx]; rfl
        have j0 := cell_of (j := 0) hk7 rfl
        have j1 := cell_of (j := 1) hk7 rfl
        have j2 := cell_of (j := 2) hk7 rfl
        have j3 := cell_of (j := 3) hk7 rfl
        have j4 := cell_of (j := 4) hk7 rfl
        have j5 := cell_of (j := 5) hk7 rfl
        refine bodyPost_ret (v := .tuple #[.agg #[.slice z0 z1 z2, .int .i64 z3, .int .u64 z4, .slice z5 z6 z7, .slice z8 z9 z10, .slice z11 z12 z13], .bool true]) (by simp [results, Try.results12, go_sem, j0, j1, j2, j3, j4, j5]) rfl ?_
        have hw7 : W7 = w6 W9 B2 (.slice z0 z1 z2) (.int .i64 z3) (.int .u64 z4) (.slice z5 z6 z7) (.slice z8 z9 z10) (.slice z11 z12 z13) := hW7.out
        rw [HRR.out]
        refine ⟨_, rfl, ?_, by rw [hw7]; exact w6_below HB9.out (by have := HZ.out.1; omega) _ _ _ _ _ _⟩
        rw [hw7]
        exact IsBea.mono (HBV9.out.keep fun p hp _ => World.cell?_of_block (w := W9) (w6_other hp.2.1 _ _ _ _ _ _)) (fun q _ (hq : (M q ∨ w.heap.size ≤ q) ∧ q ≠ B2 ∧ q ≠ gn) => hq.1)
      · have t2 : (re != 0) = true := by simp [hre0]
        have HRR : Hid (R = (b, re == 240)) := Lib.hid (by rw [HRC.out, if_neg (by rw [← HRE.out]; exact hre0), HRE.out])
        clear hre0
        go_wp2_with fail
        refine nameG (p := fun W => bodyPost Try.prog Try.f12 _ Exit.ret _ W) fun W7 hW7 => ?_
        have hk7 : W7.heap[B2]? = some (.cells #[.slice y0 y1 y2, .int .i64 y3, .int .u64 y4, .slice y5 y6 y7, .slice y8 y9 y10, .slice y11 y12 y13] 32 (0, 0)) := by
          have hx := (Blk_set (Blk_set (Blk_set (Blk_set (Blk_set (Blk_set K29.out (j := 0) (.slice y0 y1 y2)) (j := 1) (.int .i64 y3)) (j := 2) (.int .u64 y4)) (j := 3) (.slice y5 y6 y7)) (j := 4) (.slice y8 y9 y10)) (j := 5) (.slice y11 y12 y13))
          rw [hW7.out, hx]; rfl
        have j0 := cell_of (j := 0) hk7 rfl
        have j1 := cell_of (j := 1) hk7 rfl
        have j2 := cell_of (j := 2) hk7 rfl
        have j3 := cell_of (j := 3) hk7 rfl
        have j4 := cell_of (j := 4) hk7 rfl
        have j5 := cell_of (j := 5) hk7 rfl
        refine bodyPost_ret (v := .tuple #[.agg #[.slice y0 y1 y2, .int .i64 y3, .int .u64 y4, .slice y5 y6 y7, .slice y8 y9 y10, .slice y11 y12 y13], .bool (re == 240)]) (by simp [results, Try.results12, go_sem, j0, j1, j2, j3, j4, j5]) rfl ?_
        have hw7 : W7 = w6 W9 B2 (.slice y0 y1 y2) (.int .i64 y3) (.int .u64 y4) (.slice y5 y6 y7) (.slice y8 y9 y10) (.slice y11 y12 y13) := hW7.out
        rw [HRR.out]
        refine ⟨_, rfl, ?_, by rw [hw7]; exact w6_below HB9.out (by have := HZ.out.1; omega) _ _ _ _ _ _⟩
        rw [hw7]
        exact IsBea.mono ((HBE.out.below HB9.out).keep fun p hp _ => World.cell?_of_block (w := W9) (w6_other (by have := HZ.out.1; have := hp.1; omega) _ _ _ _ _ _)) (fun q _ (hq : q < w.heap.size ∧ M q) => Or.inl hq.2)
    · skip
      go_simp
      refine nameG (w := W2.drew.alloc (.cells #[.slice none 0 0, .int .i64 0, .int .u64 0, .slice none 0 0, .slice none 0 0, .slice none 0 0] 32)) (p := fun W => K _ W) fun w7 hw7 => ?_
      obtain ⟨gn, hgn⟩ : ∃ g, g = W2.heap.size := ⟨_, rfl⟩
      have HGN : Hid (W2.heap.size ≤ gn) := Lib.hid (by rw [hgn]; exact Nat.le_refl _)
      have g7 : w7.heap[gn]? = some (.cells #[.slice none 0 0, .int .i64 0, .int .u64 0, .slice none 0 0, .slice none 0 0, .slice none 0 0] 32 (0, 0)) := by rw [hw7.out, hgn]; exact heap_alloc_new _ _
      have HB7 : Hid (Below W2.heap.size W2 w7) := Lib.hid (by rw [hw7.out]; exact HBa.out.alloc HBa.out.size _)
      have HS7 : Hid (w7.heap.size = gn + 1) := Lib.hid (by rw [hw7.out, hgn]; simp)
      rw [← hgn]
      have G7 := Lib.hid g7
      clear hgn g7 hw7
      refine hK.out _ _ (fun _ => HB7.out) (fun hHeld => ?_)
      replace hHeld := hHeld (by kernel_rfl)
      clear hK K
      (repeat (first | simp only [Act.put] | simp only [List.setIfInBounds_toArray] | simp only [List.set_cons_zero] | simp only [List.set_cons_succ]))
      refine AnyL.one (i := 12) (by kernel_rfl) rfl (fun K hK => ?_)
      go_simp
      go_at_call 15
      refine ((D1.out _ HB7.out).out).mono ?_
      rintro e w8 ⟨bv, rfl, hbv, hb8⟩
      have hb8w := HB7.out.trans (hb8.mono HB7.out.size)
      have HB8 := Lib.hid hb8w
      have hs7 := HS7.out
      have g8 := (hb8.block _ (by omega)).trans G7.out
      have hbv := IsBea.mono (M' := fun q => (M q ∨ w.heap.size ≤ q) ∧ q ≠ B2 ∧ q ≠ gn) hbv (fun q hql hq => by
        have zz1 := HZ.out.1
        have zz2 := HZ2.out
        have zz3 := HGN.out
        rcases hq with hq | hq
        · exact ⟨Or.inl hq.2, by have := hq.1; omega, by have := hq.1; omega⟩
        · have hq' : w7.heap.size ≤ q := hq
          exact ⟨Or.inr (by omega), by omega, by omega⟩)
      obtain ⟨z0, z1, z2, z3, z4, z5, z6, z7, z8, z9, z10, z11, z12, z13, rfl⟩ := hbv.shape
      have HBV8 := Lib.hid hbv
      have G8 := Lib.hid g8
      obtain ⟨⟨c0, c1, c2, c3, c4, c5⟩, ⟨f0, f1, f2, f3, f4, f5⟩⟩ := blk6 g8
      clear hbv hb8 hb8w hs7 g8 HB7 G7
      refine hK.out _ _ (fun _ => HB8.out) (fun hHeld => ?_)
      replace hHeld := hHeld (by kernel_rfl)
      clear hK K
      (repeat (first | simp only [Act.put] | simp only [List.setIfInBounds_toArray] | simp only [List.set_cons_zero] | simp only [List.set_cons_succ]))
      refine AnyL.take (i := 13) (v := ?_) rfl (by kernel_rfl) (by kernel_rfl) (fun _ _ _ h => h) (by kernel_rfl) (by kernel_rfl) (by kernel_rfl) (Or.inl ⟨by rfl, ?_⟩) hHeld ?_
      rotate_left 1
      focus (intro w hSw; (try dsimp only at hSw); go_simp; (try with_reducible rfl))
      (repeat (first | simp only [Act.put] | simp only [List.setIfInBounds_toArray] | simp only [List.set_cons_zero] | simp only [List.set_cons_succ]))
      refine AnyL.take (i := 14) (v := ?_) rfl (by kernel_rfl) (by kernel_rfl) (fun _ _ _ h => h) (by kernel_rfl) (by kernel_rfl) (by kernel_rfl) (Or.inl ⟨by rfl, ?_⟩) hHeld ?_
      rotate_left 1
      focus (intro w hSw; (try dsimp only at hSw); go_simp; (try with_reducible rfl))
      (repeat (first | simp only [Act.put] | simp only [List.setIfInBounds_toArray] | simp only [List.set_cons_zero] | simp only [List.set_cons_succ]))
      refine AnyL.late (i := 15) (v := ?_) rfl (by kernel_rfl) (by kernel_rfl) (fun _ _ _ h => h) (by kernel_rfl) (by kernel_rfl) (Or.inl ⟨by rfl, ?_⟩) (fun _ => hHeld) ?_
      rotate_left 1
      focus (intro w hSw; (try dsimp only at hSw); go_simp; (try with_reducible rfl))
      (repeat (first | simp only [Act.put] | simp only [List.setIfInBounds_toArray] | simp only [List.set_cons_zero] | simp only [List.set_cons_succ]))
      refine AnyL.one (i := 17) (by kernel_rfl) rfl (fun K hK => ?_)
      go_simp
      refine hK.out _ _ (fun h => nomatch (show true = false from h)) (fun _ => ?_)
      clear hK K
      (try dsimp only)
      refine AnyL.one (i := 18) (by kernel_rfl) rfl (fun K hK => ?_)
      go_simp
      refine hK.out _ _ (fun h => nomatch (show true = false from h)) (fun _ => ?_)
      clear hK K
      (try dsimp only)
      refine AnyL.done (by kernel_rfl) ?_
      clear c0 c1 c2 c3 c4 c5 f0 f1 f2 f3 f4 f5
      go_upto_region 4 with fail
      refine nameC fun W9 hW9 => ?_
      have hw9 : W9 = w6 w8 gn (.slice z0 z1 z2) (.int .i64 z3) (.int .u64 z4) (.slice z5 z6 z7) (.slice z8 z9 z10) (.slice z11 z12 z13) := hW9.out
      have hk9 : W9.heap[gn]? = some (.cells #[.slice z0 z1 z2, .int .i64 z3, .int .u64 z4, .slice z5 z6 z7, .slice z8 z9 z10, .slice z11 z12 z13] 32 (0, 0)) := by rw [hw9]; exact w6_at G8.out _ _ _ _ _ _
      have zz1 := HZ.out.1
      have zz2 := HZ2.out
      have zz3 := HGN.out
      have hk09 : W9.heap[w.heap.size]? = some (.cells #[.slice y0 y1 y2, .int .i64 y3, .int .u64 y4, .slice y5 y6 y7, .slice y8 y9 y10, .slice y11 y12 y13] 32 (0, 0)) := by rw [hw9, w6_other (by omega)]; exact (HB8.out.block _ (by omega)).trans HK02.out
      have hk29 : W9.heap[B2]? = some (.cells #[.slice none 0 0, .int .i64 0, .int .u64 0, .slice none 0 0, .slice none 0 0, .slice none 0 0] 32 (0, 0)) := by rw [hw9, w6_other (by omega)]; exact (HB8.out.block _ (by omega)).trans HK22.out
      have K9 := Lib.hid hk9
      have K09 := Lib.hid hk09
      have K29 := Lib.hid hk29
      have HB9 : Hid (Below w.heap.size w W9) := Lib.hid (by rw [hw9]; exact w6_below (HB2.out.trans (HB8.out.mono HB2.out.size)) (by omega) _ _ _ _ _ _)
      have HBV9 : Hid (IsBea W9 (fun q => (M q ∨ w.heap.size ≤ q) ∧ q ≠ B2 ∧ q ≠ gn) (.agg #[.slice z0 z1 z2, .int .i64 z3, .int .u64 z4, .slice z5 z6 z7, .slice z8 z9 z10, .slice z11 z12 z13]) rz.1) := Lib.hid (by rw [hw9]; exact HBV8.out.keep fun p hp _ => World.cell?_of_block (w := w8) (w6_other hp.2.2 _ _ _ _ _ _))
      have hne29 : B2 ≠ gn := by omega
      have hne09 : w.heap.size ≠ gn := by omega
      have hne02 : w.heap.size ≠ B2 := by omega
      clear HB8 HBV8 G8 hw9 hk9 hk09 hk29 hW9 zz1 zz2 zz3
      obtain ⟨re, hre⟩ : ∃ z, z = rz.2 := ⟨_, rfl⟩
      have HRE := Lib.hid hre
      rw [← hre]
      clear hre
      obtain ⟨⟨a0, a1, a2, a3, a4, a5⟩, ⟨p0, p1, p2, p3, p4, p5⟩⟩ := blk6 K09.out
      obtain ⟨⟨b0, b1, b2, b3, b4, b5⟩, ⟨q0, q1, q2, q3, q4, q5⟩⟩ := blk6 K29.out
      obtain ⟨⟨c0, c1, c2, c3, c4, c5⟩, ⟨f0, f1, f2, f3, f4, f5⟩⟩ := blk6 K9.out
      by_cases hre0 : re = 0
      · subst hre0
        have HRR : Hid (R = (rz.1, true)) := Lib.hid (by rw [HRC.out, if_pos HRE.out.symm])
        go_wp2_with fail
        refine nameG (p := fun W => bodyPost Try.prog Try.f12 _ Exit.ret _ W) fun W7 hW7 => ?_
        have hk7 : W7.heap[B2]? = some (.cells #[.slice z0 z1 z2, .int .i64 z3, .int .u64 z4, .slice z5 z6 z7, .slice z8 z9 z10, .slice z11 z12 z13] 32 (0, 0)) := by
          have hx := (Blk_set (Blk_set (Blk_set (Blk_set (Blk_set (Blk_set K29.out (j := 0) (.slice z0 z1 z2)) (j := 1) (.int .i64 z3)) (j := 2) (.int .u64 z4)) (j := 3) (.slice z5 z6 z7)) (j := 4) (.slice z8 z9 z10)) (j := 5) (.slice z11 z12 z13))
          rw [hW7.out, hx]; rfl
        have j0 := cell_of (j := 0) hk7 rfl
        have j1 := cell_of (j := 1) hk7 rfl
        have j2 := cell_of (j := 2) hk7 rfl
        have j3 := cell_of (j := 3) hk7 rfl
        have j4 := cell_of (j := 4) hk7 rfl
        have j5 := cell_of (j := 5) hk7 rfl
        refine bodyPost_ret (v := .tuple #[.agg #[.slice z0 z1 z2, .int .i64 z3, .int .u64 z4, .slice z5 z6 z7, .slice z8 z9 z10, .slice z11 z12 z13], .bool true]) (by simp [results, Try.results12, go_sem, j0, j1, j2, j3, j4, j5]) rfl ?_
        have hw7 : W7 = w6 W9 B2 (.slice z0 z1 z2) (.int .i64 z3) (.int .u64 z4) (.slice z5 z6 z7) (.slice z8 z9 z10) (.slice z11 z12 z13) := hW7.out
        rw [HRR.out]
        refine ⟨_, rfl, ?_, by rw [hw7]; exact w6_below HB9.out (by have := HZ.out.1; omega) _ _ _ _ _ _⟩
        rw [hw7]
        exact IsBea.mono (HBV9.out.keep fun p hp _ => World.cell?_of_block (w := W9) (w6_other hp.2.1 _ _ _ _ _ _)) (fun q _ (hq : (M q ∨ w.heap.size ≤ q) ∧ q ≠ B2 ∧ q ≠ gn) => hq.1)
      · have t2 : (re != 0) = true := by simp [hre0]
        have HRR : Hid (R = (b, re == 240)) := Lib.hid (by rw [HRC.out, if_neg (by rw [← HRE.out]; exact hre0), HRE.out])
        clear hre0
        go_wp2_with fail
        refine nameG (p := fun W => bodyPost Try.prog Try.f12 _ Exit.ret _ W) fun W7 hW7 => ?_
        have hk7 : W7.heap[B2]? = some (.cells #[.slice y0 y1 y2, .int .i64 y3, .int .u64 y4, .slice y5 y6 y7, .slice y8 y9 y10, .slice y11 y12 y13] 32 (0, 0)) := by
          have hx := (Blk_set (Blk_set (Blk_set (Blk_set (Blk_set (Blk_set K29.out (j := 0) (.slice y0 y1 y2)) (j := 1) (.int .i64 y3)) (j := 2) (.int .u64 y4)) (j := 3) (.slice y5 y6 y7)) (j := 4) (.slice y8 y9 y10)) (j := 5) (.slice y11 y12 y13))
          rw [hW7.out, hx]; rfl
        have j0 := cell_of (j := 0) hk7 rfl
        have j1 := cell_of (j := 1) hk7 rfl
        have j2 := cell_of (j := 2) hk7 rfl
        have j3 := cell_of (j := 3) hk7 rfl
        have j4 := cell_of (j := 4) hk7 rfl
        have j5 := cell_of (j := 5) hk7 rfl
        refine bodyPost_ret (v := .tuple #[.agg #[.slice y0 y1 y2, .int .i64 y3, .int .u64 y4, .slice y5 y6 y7, .slice y8 y9 y10, .slice y11 y12 y13], .bool (re == 240)]) (by simp [results, Try.results12, go_sem, j0, j1, j2, j3, j4, j5]) rfl ?_
        have hw7 : W7 = w6 W9 B2 (.slice y0 y1 y2) (.int .i64 y3) (.int .u64 y4) (.slice y5 y6 y7) (.slice y8 y9 y10) (.slice y11 y12 y13) := hW7.out
        rw [HRR.out]
        refine ⟨_, rfl, ?_, by rw [hw7]; exact w6_below HB9.out (by have := HZ.out.1; omega) _ _ _ _ _ _⟩
        rw [hw7]
        exact IsBea.mono ((HBE.out.below HB9.out).keep fun p hp _ => World.cell?_of_block (w := W9) (w6_other (by have := HZ.out.1; have := hp.1; omega) _ _ _ _ _ _)) (fun q _ (hq : q < w.heap.size ∧ M q) => Or.inl hq.2)
  · have b0 : ((c : Int) == (f : Int)) = false := by rw [beq_eq_false_iff_ne]; omega
    have HCN := Lib.hid hcf
    clear hcf
    go_upto_region 7 with fail
    refine nameC fun W2a hW2 => ?_
    have hb2a : Below w.heap.size w W2a := by rw [hW2.out]; exact (below_drewN HB1.out _)
    have hs2a : w.heap.size + 3 ≤ W2a.heap.size := by rw [hW2.out]; exact Nat.le_of_eq HZ.out.2.symm
    have hk02a : W2a.heap[w.heap.size]? = W1.heap[w.heap.size]? := by rw [hW2.out]; rfl
    have hk22a : W2a.heap[B2]? = W1.heap[B2]? := by rw [hW2.out]; rfl
    have HK02a := Lib.hid (hk02a.trans HK0.out)
    have HK22a := Lib.hid (hk22a.trans HK2.out)
    have HB2a := Lib.hid hb2a
    have HS2a := Lib.hid hs2a
    obtain ⟨b1, o1, vA, vc, rfl, hb1, hc1, hkv⟩ := HP.out.at_ hb2a (show c < ps.length by rw [HPL.out]; exact hcn)
    have HKV := Lib.hid hkv
    have hcz : (0 : Int) ≤ (c : Int) := by omega
    have hcz1 : (c : Int) < (n : Int) := by omega
    clear hb2a hs2a hk02a hk22a hb1 hkv hW2
    go_wp2_with fail
    refine (split_any _ _ _ (polN ps c) HKV.out (n : Int)).mono ?_
    rintro e W5 ⟨lv, rfl, hlv, hb5⟩
    obtain ⟨lA, lc, rfl, -⟩ := id hlv
    have HLV := Lib.hid hlv
    have HB5 := Lib.hid (HB2a.out.trans (hb5.mono HB2a.out.size))
    have HK05 := Lib.hid ((hb5.block _ (lt_heap HK02a.out)).trans HK02a.out)
    have HK25 := Lib.hid ((hb5.block _ (lt_heap HK22a.out)).trans HK22a.out)
    have HS5 : Hid (w.heap.size + 3 ≤ W5.heap.size) := Lib.hid (Nat.le_trans HS2a.out hb5.size)
    clear hlv hb5 hc1
    obtain ⟨sp, hsp⟩ : ∃ z, z = splitD (polN ps c) (n : Int) := ⟨_, rfl⟩
    have HSP := Lib.hid hsp
    rw [← hsp] at HLV ⊢
    clear hsp
    obtain ⟨nl, hnl⟩ : ∃ z, z = sp.1.length := ⟨_, rfl⟩
    have HNL := Lib.hid hnl
    rw [← hnl] at HLV ⊢
    clear hnl
    have hspe : splitD (polN ps c) (cl.length : Int) = sp := by rw [HSP.out, HN.out]
    have HRQ : Hid (R = if sp.2 ≠ 0 ∨ nl ≠ n then (b, false) else if (openD b ⟨nthI cl c, nthI cl f, shN sp.1 f⟩).2 = 0 then ((openD b ⟨nthI cl c, nthI cl f, shN sp.1 f⟩).1, true) else (b, (openD b ⟨nthI cl c, nthI cl f, shN sp.1 f⟩).2 == 240)) := Lib.hid (by
      rw [HR.out]; unfold playC; rw [if_neg HCN.out, hspe, HNL.out, HN.out])
    clear hspe
    obtain ⟨se, hse⟩ : ∃ z, z = sp.2 := ⟨_, rfl⟩
    have HSE := Lib.hid hse
    rw [← hse]
    clear hse
    obtain ⟨⟨c0, c1, c2, c3, c4, c5⟩, ⟨f0, f1, f2, f3, f4, f5⟩⟩ := blk6 HK05.out
    obtain ⟨⟨a0, a1, a2, a3, a4, a5⟩, ⟨p0, p1, p2, p3, p4, p5⟩⟩ := blk6 HK25.out
    by_cases hany : se ≠ 0 ∨ nl ≠ n
    · have HRF : Hid (R = (b, false)) := Lib.hid (by rw [HRQ.out, if_pos (by rw [← HSE.out]; exact hany)])
      obtain ⟨p1, h1⟩ : ∃ p, p = (se != 0) := ⟨_, rfl⟩
      obtain ⟨p2, h2⟩ : ∃ p, p = ((nl : Int) != (n : Int)) := ⟨_, rfl⟩
      have hp : (p1 || p2) = true := by
        rw [h1, h2]
        rcases hany with h | h
        · simp [h]
        · have : (nl : Int) ≠ (n : Int) := by omega
          simp [this]
      replace h1 := h1.symm
      replace h2 := h2.symm
      clear hany
      cases p1 <;> cases p2 <;> first | (exfalso; revert hp; decide) | skip
      all_goals clear hp
      all_goals (
        go_wp2_with fail
        refine nameG (p := fun W => bodyPost Try.prog Try.f12 _ Exit.ret _ W) fun W7 hW7 => ?_
        have hk7 : W7.heap[B2]? = some (.cells #[.slice y0 y1 y2, .int .i64 y3, .int .u64 y4, .slice y5 y6 y7, .slice y8 y9 y10, .slice y11 y12 y13] 32 (0, 0)) := by
          have hx := (Blk_set (Blk_set (Blk_set (Blk_set (Blk_set (Blk_set HK25.out (j := 0) (.slice y0 y1 y2)) (j := 1) (.int .i64 y3)) (j := 2) (.int .u64 y4)) (j := 3) (.slice y5 y6 y7)) (j := 4) (.slice y8 y9 y10)) (j := 5) (.slice y11 y12 y13))
          rw [hW7.out, hx]; rfl
        have j0 := cell_of (j := 0) hk7 rfl
        have j1 := cell_of (j := 1) hk7 rfl
        have j2 := cell_of (j := 2) hk7 rfl
        have j3 := cell_of (j := 3) hk7 rfl
        have j4 := cell_of (j := 4) hk7 rfl
        have j5 := cell_of (j := 5) hk7 rfl
        refine bodyPost_ret (v := .tuple #[.agg #[.slice y0 y1 y2, .int .i64 y3, .int .u64 y4, .slice y5 y6 y7, .slice y8 y9 y10, .slice y11 y12 y13], .bool false]) (by simp [results, Try.results12, go_sem, j0, j1, j2, j3, j4, j5]) rfl ?_
        have hw7 : W7 = w6 W5 B2 (.slice y0 y1 y2) (.int .i64 y3) (.int .u64 y4) (.slice y5 y6 y7) (.slice y8 y9 y10) (.slice y11 y12 y13) := hW7.out
        rw [HRF.out]
        refine ⟨_, rfl, ?_, by rw [hw7]; exact w6_below HB5.out (by have := HZ.out.1; omega) _ _ _ _ _ _⟩
        rw [hw7]
        exact IsBea.mono ((HBE.out.below HB5.out).keep fun p hp _ => World.cell?_of_block (w := W5) (w6_other (by have := HZ.out.1; have := hp.1; omega) _ _ _ _ _ _)) (fun q _ (hq : q < w.heap.size ∧ M q) => Or.inl hq.2)
      )
    · have h1 : (se != 0) = false := by simp; exact Classical.byContradiction fun h => hany (Or.inl h)
      have hnn : nl = n := Classical.byContradiction fun h => hany (Or.inr h)
      have h2 : ((nl : Int) != (n : Int)) = false := by simp [hnn]
      have HRC : Hid (R = if (openD b ⟨nthI cl c, nthI cl f, shN sp.1 f⟩).2 = 0 then ((openD b ⟨nthI cl c, nthI cl f, shN sp.1 f⟩).1, true) else (b, (openD b ⟨nthI cl c, nthI cl f, shN sp.1 f⟩).2 == 240)) := Lib.hid (by rw [HRQ.out, if_neg (by rw [← HSE.out]; exact hany)])
      clear hany c0 c1 c2 c3 c4 c5 f0 f1 f2 f3 f4 f5 a0 a1 a2 a3 a4 a5 p0 p1 p2 p3 p4 p5
      go_upto_region 10 with fail
      refine nameC fun W2 hW2 => ?_
      have hw2 : W2 = W5 := hW2.out
      clear hW2
      subst hw2
      have HB2 := HB5
      have HK02 := HK05
      have HK22 := HK25
      have HZ2 := HS5
      rw [hnn] at HLV
      obtain ⟨b3, o3, rfl, hb3, hc30, hc31⟩ := IsShs.at_ (k := f) (show IsShs W2 _ (.slice lA sp.1.length lc) sp.1 by rw [← HNL.out, hnn]; exact HLV.out) (Below.refl _ _) (by rw [← HNL.out, hnn]; exact hfn)
      have hfl : f < sp.1.length := by rw [← HNL.out, hnn]; exact hfn
      rw [show sp.1[f] = shN sp.1 f by unfold shN; rw [List.getD_eq_getElem?_getD, List.getElem?_eq_getElem hfl]; rfl] at hc30 hc31
      obtain ⟨b2, o2, rfl, hb2', hcl2⟩ := HA.out.at_ HB2.out (show c < cl.length by rw [← HN.out]; exact hcn)
      obtain ⟨b2x, o2x, ex, -, hcl3⟩ := HA.out.at_ HB2.out (show f < cl.length by rw [← HN.out]; exact hfn)
      cases ex
      have hw64 : W64 (nthI cl c) := HWW.out c (by rw [← HN.out]; exact hcn)
      have hw64f : W64 (nthI cl f) := HWW.out f (by rw [← HN.out]; exact hfn)
      have D1 := Lib.hid (fun (W : World) (hW : Below W2.heap.size W2 W) => Lib.hid (openS_any W _ _ b ⟨nthI cl c, nthI cl f, shN sp.1 f⟩ (HBE.out.below (HB2.out.trans (hW.mono HB2.out.size))) HS.out hw64 hw64f))
      obtain ⟨rz, hrz⟩ : ∃ z, z = openD b ⟨nthI cl c, nthI cl f, shN sp.1 f⟩ := ⟨_, rfl⟩
      rw [← hrz] at D1 HRC
      dsimp only at D1
      obtain ⟨xk, hxk⟩ : ∃ z, z = nthI cl c := ⟨_, rfl⟩
      obtain ⟨xf, hxf⟩ : ∃ z, z = nthI cl f := ⟨_, rfl⟩
      obtain ⟨sx, hsx⟩ : ∃ z, z = (shN sp.1 f).1 := ⟨_, rfl⟩
      obtain ⟨sy, hsy⟩ : ∃ z, z = (shN sp.1 f).2 := ⟨_, rfl⟩
      rw [← hxk] at hcl2 D1
      rw [← hxf] at hcl3 D1
      rw [← hsx] at hc30 D1
      rw [← hsy] at hc31 D1
      have HC := Lib.hid (show ∀ W', Below W2.heap.size W2 W' → (W'.cell? ⟨w.heap.size, 0, none⟩ = some (.slice y0 y1 y2) ∧ W'.cell? ⟨w.heap.size, 1, none⟩ = some (.int .i64 y3) ∧ W'.cell? ⟨w.heap.size, 2, none⟩ = some (.int .u64 y4) ∧ W'.cell? ⟨w.heap.size, 3, none⟩ = some (.slice y5 y6 y7) ∧ W'.cell? ⟨w.heap.size, 4, none⟩ = some (.slice y8 y9 y10) ∧ W'.cell? ⟨w.heap.size, 5, none⟩ = some (.slice y11 y12 y13) ∧ W'.cell? ⟨b2, o2 + c, none⟩ = some (.int .i64 xk) ∧ W'.cell? ⟨b2, o2 + f, none⟩ = some (.int .i64 xf) ∧ W'.cell? ⟨b3, o3 + f * 2, none⟩ = some (.int .u64 (sx : Int)) ∧ W'.cell? ⟨b3, o3 + f * 2 + 1, none⟩ = some (.int .u64 (sy : Int))) from fun W' h => by
        have e0 := (h.block _ (lt_heap HK02.out)).trans HK02.out
        exact ⟨cell_of e0 rfl, cell_of e0 rfl, cell_of e0 rfl, cell_of e0 rfl, cell_of e0 rfl, cell_of e0 rfl, (h.cell (p := ⟨b2, o2 + c, none⟩) (lt_of_cell hcl2)).trans hcl2, (h.cell (p := ⟨b2, o2 + f, none⟩) (lt_of_cell hcl3)).trans hcl3, (h.cell (p := ⟨b3, o3 + f * 2, none⟩) (lt_of_cell hc30)).trans hc30, (h.cell (p := ⟨b3, o3 + f * 2 + 1, none⟩) (lt_of_cell hc31)).trans hc31⟩)
      have hfz : (0 : Int) ≤ (f : Int) := by omega
      have hfz1 : (f : Int) < (n : Int) := by omega
      subst hnn
      clear hb3 hc30 hc31 hb2' hcl2 hcl3 hw64 hw64f hrz hxk hxf hsx hsy hcn hfn hfl h1 h2
      refine anyL_begin (z := 19) (S := fun W9 => Below W2.heap.size W2 W9) (by kernel_rfl) (Below.drew (Below.refl _ _)) (fun hHeld => ?_)
      refine AnyL.take (i := 0) (v := ?_) rfl (by kernel_rfl) (by kernel_rfl) (fun _ _ _ h => h) (by kernel_rfl) (by kernel_rfl) (by kernel_rfl) (Or.inl ⟨by rfl, ?_⟩) hHeld ?_
      rotate_left 1
      focus (intro w hSw; (try dsimp only at hSw); obtain ⟨c0, c1, c2, c3, c4, c5, ck, cv, cn, cm⟩ := HC.out w hSw; go_simp; (try with_reducible rfl))
      (repeat (first | simp only [Act.put] | simp only [List.setIfInBounds_toArray] | simp only [List.set_cons_zero] | simp only [List.set_cons_succ]))
      refine AnyL.take (i := 1) (v := ?_) rfl (by kernel_rfl) (by kernel_rfl) (fun _ _ _ h => h) (by kernel_rfl) (by kernel_rfl) (by kernel_rfl) (Or.inl ⟨by rfl, ?_⟩) hHeld ?_
      rotate_left 1
      focus (intro w hSw; (try dsimp only at hSw); go_simp; (try with_reducible rfl))
      (repeat (first | simp only [Act.put] | simp only [List.setIfInBounds_toArray] | simp only [List.set_cons_zero] | simp only [List.set_cons_succ]))
      refine AnyL.take (i := 2) (v := ?_) rfl (by kernel_rfl) (by kernel_rfl) (fun _ _ _ h => h) (by kernel_rfl) (by kernel_rfl) (by kernel_rfl) (Or.inl ⟨by rfl, ?_⟩) hHeld ?_
      rotate_left 1
      focus (intro w hSw; (try dsimp only at hSw); go_simp; (try with_reducible rfl))
      (repeat (first | simp only [Act.put] | simp only [List.setIfInBounds_toArray] | simp only [List.set_cons_zero] | simp only [List.set_cons_succ]))
      refine AnyL.take (i := 3) (v := ?_) rfl (by kernel_rfl) (by kernel_rfl) (fun _ _ _ h => h) (by kernel_rfl) (by kernel_rfl) (by kernel_rfl) (Or.inl ⟨by rfl, ?_⟩) hHeld ?_
      rotate_left 1
      focus (intro w hSw; (try dsimp only at hSw); go_simp; (try with_reducible rfl))
      (repeat (first | simp only [Act.put] | simp only [List.setIfInBounds_toArray] | simp only [List.set_cons_zero] | simp only [List.set_cons_succ]))
      refine AnyL.take (i := 4) (v := ?_) rfl (by kernel_rfl) (by kernel_rfl) (fun _ _ _ h => h) (by kernel_rfl) (by kernel_rfl) (by kernel_rfl) (Or.inl ⟨by rfl, ?_⟩) hHeld ?_
      rotate_left 1
      focus (intro w hSw; (try dsimp only at hSw); obtain ⟨c0, c1, c2, c3, c4, c5, ck, cv, cn, cm⟩ := HC.out w hSw; go_simp; (try with_reducible rfl))
      (repeat (first | simp only [Act.put] | simp only [List.setIfInBounds_toArray] | simp only [List.set_cons_zero] | simp only [List.set_cons_succ]))
      refine AnyL.take (i := 5) (v := ?_) rfl (by kernel_rfl) (by kernel_rfl) (fun _ _ _ h => h) (by kernel_rfl) (by kernel_rfl) (by kernel_rfl) (Or.inl ⟨by rfl, ?_⟩) hHeld ?_
      rotate_left 1
      focus (intro w hSw; (try dsimp only at hSw); go_simp; (try with_reducible rfl))
      (repeat (first | simp only [Act.put] | simp only [List.setIfInBounds_toArray] | simp only [List.set_cons_zero] | simp only [List.set_cons_succ]))
      refine AnyL.take (i := 6) (v := ?_) rfl (by kernel_rfl) (by kernel_rfl) (fun _ _ _ h => h) (by kernel_rfl) (by kernel_rfl) (by kernel_rfl) (Or.inl ⟨by rfl, ?_⟩) hHeld ?_
      rotate_left 1
      focus (intro w hSw; (try dsimp only at hSw); go_simp; (try with_reducible rfl))
      (repeat (first | simp only [Act.put] | simp only [List.setIfInBounds_toArray] | simp only [List.set_cons_zero] | simp only [List.set_cons_succ]))
      refine AnyL.take (i := 7) (v := ?_) rfl (by kernel_rfl) (by kernel_rfl) (fun _ _ _ h => h) (by kernel_rfl) (by kernel_rfl) (by kernel_rfl) (Or.inl ⟨by rfl, ?_⟩) hHeld ?_
      rotate_left 1
      focus (intro w hSw; (try dsimp only at hSw); go_simp; (try with_reducible rfl))
      (repeat (first | simp only [Act.put] | simp only [List.setIfInBounds_toArray] | simp only [List.set_cons_zero] | simp only [List.set_cons_succ]))
      refine AnyL.take (i := 8) (v := ?_) rfl (by kernel_rfl) (by kernel_rfl) (fun _ _ _ h => h) (by kernel_rfl) (by kernel_rfl) (by kernel_rfl) (Or.inl ⟨by rfl, ?_⟩) hHeld ?_
      rotate_left 1
      focus (intro w hSw; (try dsimp only at hSw); obtain ⟨c0, c1, c2, c3, c4, c5, ck, cv, cn, cm⟩ := HC.out w hSw; go_simp; (try with_reducible rfl))
      (repeat (first | simp only [Act.put] | simp only [List.setIfInBounds_toArray] | simp only [List.set_cons_zero] | simp only [List.set_cons_succ]))
      refine AnyL.take (i := 9) (v := ?_) rfl (by kernel_rfl) (by kernel_rfl) (fun _ _ _ h => h) (by kernel_rfl) (by kernel_rfl) (by kernel_rfl) (Or.inl ⟨by rfl, ?_⟩) hHeld ?_
      rotate_left 1
      focus (intro w hSw; (try dsimp only at hSw); go_simp; (try with_reducible rfl))
      (repeat (first | simp only [Act.put] | simp only [List.setIfInBounds_toArray] | simp only [List.set_cons_zero] | simp only [List.set_cons_succ]))
      refine AnyL.take (i := 10) (v := ?_) rfl (by kernel_rfl) (by kernel_rfl) (fun _ _ _ h => h) (by kernel_rfl) (by kernel_rfl) (by kernel_rfl) (Or.inl ⟨by rfl, ?_⟩) hHeld ?_
      rotate_left 1
      focus (intro w hSw; (try dsimp only at hSw); go_simp; (try with_reducible rfl))
      (repeat (first | simp only [Act.put] | simp only [List.setIfInBounds_toArray] | simp only [List.set_cons_zero] | simp only [List.set_cons_succ]))
      refine AnyL.take (i := 11) (v := ?_) rfl (by kernel_rfl) (by kernel_rfl) (fun _ _ _ h => h) (by kernel_rfl) (by kernel_rfl) (by kernel_rfl) (Or.inl ⟨by rfl, ?_⟩) hHeld ?_
      rotate_left 1
      focus (intro w hSw; (try dsimp only at hSw); go_simp; (try with_reducible rfl))
      (repeat (first | simp only [Act.put] | simp only [List.setIfInBounds_toArray] | simp only [List.set_cons_zero] | simp only [List.set_cons_succ]))
      refine AnyL.take (i := 12) (v := ?_) rfl (by kernel_rfl) (by kernel_rfl) (fun _ _ _ h => h) (by kernel_rfl) (by kernel_rfl) (by kernel_rfl) (Or.inl ⟨by rfl, ?_⟩) hHeld ?_
      rotate_left 1
      focus (intro w hSw; (try dsimp only at hSw); obtain ⟨c0, c1, c2, c3, c4, c5, ck, cv, cn, cm⟩ := HC.out w hSw; go_simp; (try with_reducible rfl))
      (repeat (first | simp only [Act.put] | simp only [List.setIfInBounds_toArray] | simp only [List.set_cons_zero] | simp only [List.set_cons_succ]))
      refine AnyL.take (i := 13) (v := ?_) rfl (by kernel_rfl) (by kernel_rfl) (fun _ _ _ h => h) (by kernel_rfl) (by kernel_rfl) (by kernel_rfl) (Or.inl ⟨by rfl, ?_⟩) hHeld ?_
      rotate_left 1
      focus (intro w hSw; (try dsimp only at hSw); go_simp; (try with_reducible rfl))
      (repeat (first | simp only [Act.put] | simp only [List.setIfInBounds_toArray] | simp only [List.set_cons_zero] | simp only [List.set_cons_succ]))
      have HBa : Hid (Below W2.heap.size W2 W2.drew) := Lib.hid (Below.drew (Below.refl _ _))
      have HSd : Hid (W2.drew.heap.size = W2.heap.size) := Lib.hid (show _ = _ from rfl)
      refine AnyL.two (i := 14) (j := 18) (by kernel_rfl) rfl rfl (fun K hK => ?_) (fun K hK => ?_)
      · skip
        go_simp
        go_at_call 17
        refine ((D1.out _ HBa.out).out).mono ?_
        rintro e w7 ⟨bv, rfl, hbv, hb7⟩
        have hb7w := HBa.out.trans (hb7.mono HBa.out.size)
        have HB7 := Lib.hid hb7w
        obtain ⟨gn, hgn⟩ : ∃ g, g = w7.heap.size := ⟨_, rfl⟩
        have HGN : Hid (W2.heap.size ≤ gn) := Lib.hid (by rw [hgn]; exact hb7w.size)
        have hgs := HSd.out
        have hbv := IsBea.mono (M' := fun q => (M q ∨ w.heap.size ≤ q) ∧ q ≠ B2 ∧ q ≠ gn) hbv (fun q hql hq => by
          have zz1 := HZ.out.1
          have zz2 := HZ2.out
          have zz3 := HGN.out
          rcases hq with hq | hq
          · exact ⟨Or.inl hq.2, by have := hq.1; omega, by have := hq.1; omega⟩
          · have hq' : W2.drew.heap.size ≤ q := hq
            exact ⟨Or.inr (by omega), by omega, by omega⟩)
        obtain ⟨z0, z1, z2, z3, z4, z5, z6, z7, z8, z9, z10, z11, z12, z13, rfl⟩ := hbv.shape
        have HBV7 := Lib.hid hbv
        have HGE := Lib.hid hgn
        clear hbv hb7 hb7w hgs hgn
        refine hK.out _ _ (fun _ => HB7.out) (fun hHeld => ?_)
        replace hHeld := hHeld (by kernel_rfl)
        clear hK K
        (repeat (first | simp only [Act.put] | simp only [List.setIfInBounds_toArray] | simp only [List.set_cons_zero] | simp only [List.set_cons_succ]))
        refine AnyL.take (i := 15) (v := ?_) rfl (by kernel_rfl) (by kernel_rfl) (fun _ _ _ h => h) (by kernel_rfl) (by kernel_rfl) (by kernel_rfl) (Or.inl ⟨by rfl, ?_⟩) hHeld ?_
        rotate_left 1
        focus (intro w hSw; (try dsimp only at hSw); go_simp; (try with_reducible rfl))
        (repeat (first | simp only [Act.put] | simp only [List.setIfInBounds_toArray] | simp only [List.set_cons_zero] | simp only [List.set_cons_succ]))
        refine AnyL.take (i := 16) (v := ?_) rfl (by kernel_rfl) (by kernel_rfl) (fun _ _ _ h => h) (by kernel_rfl) (by kernel_rfl) (by kernel_rfl) (Or.inl ⟨by rfl, ?_⟩) hHeld ?_
        rotate_left 1
        focus (intro w hSw; (try dsimp only at hSw); go_simp; (try with_reducible rfl))
        (repeat (first | simp only [Act.put] | simp only [List.setIfInBounds_toArray] | simp only [List.set_cons_zero] | simp only [List.set_cons_succ]))
        refine AnyL.late (i := 17) (v := ?_) rfl (by kernel_rfl) (by kernel_rfl) (fun _ _ _ h => h) (by kernel_rfl) (by kernel_rfl) (Or.inl ⟨by rfl, ?_⟩) (fun _ => hHeld) ?_
        rotate_left 1
        focus (intro w hSw; (try dsimp only at hSw); go_simp; (try with_reducible rfl))
        (repeat (first | simp only [Act.put] | simp only [List.setIfInBounds_toArray] | simp only [List.set_cons_zero] | simp only [List.set_cons_succ]))
        refine AnyL.one (i := 18) (by kernel_rfl) rfl (fun K hK => ?_)
        go_simp
        refine nameG (w := w7.alloc (.cells #[.slice none 0 0, .int .i64 0, .int .u64 0, .slice none 0 0, .slice none 0 0, .slice none 0 0] 32)) (p := fun W => K _ W) fun w8 hw8 => ?_
        have hb8w : Below w7.heap.size w7 w8 := by rw [hw8.out]; exact (Below.refl _ _).alloc (Nat.le_refl _) _
        have g8 : w8.heap[gn]? = some (.cells #[.slice none 0 0, .int .i64 0, .int .u64 0, .slice none 0 0, .slice none 0 0, .slice none 0 0] 32 (0, 0)) := by rw [hw8.out, HGE.out]; exact heap_alloc_new _ _
        rw [← HGE.out]
        have HB8 := Lib.hid (HB7.out.trans (hb8w.mono HB7.out.size))
        have HBV8 := Lib.hid (HBV7.out.below hb8w)
        have G8 := Lib.hid g8
        obtain ⟨⟨c0, c1, c2, c3, c4, c5⟩, ⟨f0, f1, f2, f3, f4, f5⟩⟩ := blk6 g8
        clear hb8w g8 hw8 HBV7 HB7
        refine hK.out _ _ (fun _ => HB8.out) (fun hHeld => ?_)
        replace hHeld := hHeld (by kernel_rfl)
        clear hK K
        (repeat (first | simp only [Act.put] | simp only [List.setIfInBounds_toArray] | simp only [List.set_cons_zero] | simp only [List.set_cons_succ]))
        refine AnyL.one (i := 19) (by kernel_rfl) rfl (fun K hK => ?_)
        go_simp
        refine hK.out _ _ (fun h => nomatch (show true = false from h)) (fun _ => ?_)
        clear hK K
        (try dsimp only)
        refine AnyL.one (i := 20) (by kernel_rfl) rfl (fun K hK => ?_)
        go_simp
        refine hK.out _ _ (fun h => nomatch (show true = false from h)) (fun _ => ?_)
        clear hK K
        (try dsimp only)
        refine AnyL.done (by kernel_rfl) ?_
        clear c0 c1 c2 c3 c4 c5 f0 f1 f2 f3 f4 f5
        go_upto_region 11 with fail
        refine nameC fun W9 hW9 => ?_
        have hw9 : W9 = w6 w8 gn (.slice z0 z1 z2) (.int .i64 z3) (.int .u64 z4) (.slice z5 z6 z7) (.slice z8 z9 z10) (.slice z11 z12 z13) := hW9.out
        have hk9 : W9.heap[gn]? = some (.cells #[.slice z0 z1 z2, .int .i64 z3, .int .u64 z4, .slice z5 z6 z7, .slice z8 z9 z10, .slice z11 z12 z13] 32 (0, 0)) := by rw [hw9]; exact w6_at G8.out _ _ _ _ _ _
        have zz1 := HZ.out.1
        have zz2 := HZ2.out
        have zz3 := HGN.out
        have hk09 : W9.heap[w.heap.size]? = some (.cells #[.slice y0 y1 y2, .int .i64 y3, .int .u64 y4, .slice y5 y6 y7, .slice y8 y9 y10, .slice y11 y12 y13] 32 (0, 0)) := by rw [hw9, w6_other (by omega)]; exact (HB8.out.block _ (by omega)).trans HK02.out
        have hk29 : W9.heap[B2]? = some (.cells #[.slice none 0 0, .int .i64 0, .int .u64 0, .slice none 0 0, .slice none 0 0, .slice none 0 0] 32 (0, 0)) := by rw [hw9, w6_other (by omega)]; exact (HB8.out.block _ (by omega)).trans HK22.out
        have K9 := Lib.hid hk9
        have K09 := Lib.hid hk09
        have K29 := Lib.hid hk29
        have HB9 : Hid (Below w.heap.size w W9) := Lib.hid (by rw [hw9]; exact w6_below (HB2.out.trans (HB8.out.mono HB2.out.size)) (by omega) _ _ _ _ _ _)
        have HBV9 : Hid (IsBea W9 (fun q => (M q ∨ w.heap.size ≤ q) ∧ q ≠ B2 ∧ q ≠ gn) (.agg #[.slice z0 z1 z2, .int .i64 z3, .int .u64 z4, .slice z5 z6 z7, .slice z8 z9 z10, .slice z11 z12 z13]) rz.1) := Lib.hid (by rw [hw9]; exact HBV8.out.keep fun p hp _ => World.cell?_of_block (w := w8) (w6_other hp.2.2 _ _ _ _ _ _))
        have hne29 : B2 ≠ gn := by omega
        have hne09 : w.heap.size ≠ gn := by omega
        have hne02 : w.heap.size ≠ B2 := by omega
        clear HB8 HBV8 G8 hw9 hk9 hk09 hk29 hW9 zz1 zz2 zz3
        obtain ⟨re, hre⟩ : ∃ z, z = rz.2 := ⟨_, rfl⟩
        have HRE := Lib.hid hre
        rw [← hre]
        clear hre
        obtain ⟨⟨a0, a1, a2, a3, a4, a5⟩, ⟨p0, p1, p2, p3, p4, p5⟩⟩ := blk6 K09.out
        obtain ⟨⟨b0, b1, b2, b3, b4, b5⟩, ⟨q0, q1, q2, q3, q4, q5⟩⟩ := blk6 K29.out
        obtain ⟨⟨c0, c1, c2, c3, c4, c5⟩, ⟨f0, f1, f2, f3, f4, f5⟩⟩ := blk6 K9.out
        by_cases hre0 : re = 0
        · subst hre0
          have HRR : Hid (R = (rz.1, true)) := Lib.hid (by rw [HRC.out, if_pos HRE.out.symm])
          go_wp2_with fail
          refine nameG (p := fun W => bodyPost Try.prog Try.f12 _ Exit.ret _ W) fun W7 hW7 => ?_
          have hk7 : W7.heap[B2]? = some (.cells #[.slice z0 z1 z2, .int .i64 z3, .int .u64 z4, .slice z5 z6 z7, .slice z8 z9 z10, .slice z11 z12 z13] 32 (0, 0)) := by
            have hx := (Blk_set (Blk_set (Blk_set (Blk_set (Blk_set (Blk_set K29.out (j := 0) (.slice z0 z1 z2)) (j := 1) (.int .i64 z3)) (j := 2) (.int .u64 z4)) (j := 3) (.slice z5 z6 z7)) (j := 4) (.slice z8 z9 z10)) (j := 5) (.slice z11 z12 z13))
            rw [hW7.out, hx]; rfl
          have j0 := cell_of (j := 0) hk7 rfl
          have j1 := cell_of (j := 1) hk7 rfl
          have j2 := cell_of (j := 2) hk7 rfl
          have j3 := cell_of (j := 3) hk7 rfl
          have j4 := cell_of (j := 4) hk7 rfl
          have j5 := cell_of (j := 5) hk7 rfl
          refine bodyPost_ret (v := .tuple #[.agg #[.slice z0 z1 z2, .int .i64 z3, .int .u64 z4, .slice z5 z6 z7, .slice z8 z9 z10, .slice z11 z12 z13], .bool true]) (by simp [results, Try.results12, go_sem, j0, j1, j2, j3, j4, j5]) rfl ?_
          have hw7 : W7 = w6 W9 B2 (.slice z0 z1 z2) (.int .i64 z3) (.int .u64 z4) (.slice z5 z6 z7) (.slice z8 z9 z10) (.slice z11 z12 z13) := hW7.out
          rw [HRR.out]
          refine ⟨_, rfl, ?_, by rw [hw7]; exact w6_below HB9.out (by have := HZ.out.1; omega) _ _ _ _ _ _⟩
          rw [hw7]
          exact IsBea.mono (HBV9.out.keep fun p hp _ => World.cell?_of_block (w := W9) (w6_other hp.2.1 _ _ _ _ _ _)) (fun q _ (hq : (M q ∨ w.heap.size ≤ q) ∧ q ≠ B2 ∧ q ≠ gn) => hq.1)
        · have t2 : (re != 0) = true := by simp [hre0]
          have HRR : Hid (R = (b, re == 240)) := Lib.hid (by rw [HRC.out, if_neg (by rw [← HRE.out]; exact hre0), HRE.out])
          clear hre0
          go_wp2_with fail
          refine nameG (p := fun W => bodyPost Try.prog Try.f12 _ Exit.ret _ W) fun W7 hW7 => ?_
          have hk7 : W7.heap[B2]? = some (.cells #[.slice y0 y1 y2, .int .i64 y3, .int .u64 y4, .slice y5 y6 y7, .slice y8 y9 y10, .slice y11 y12 y13] 32 (0, 0)) := by
            have hx := (Blk_set (Blk_set (Blk_set (Blk_set (Blk_set (Blk_set K29.out (j := 0) (.slice y0 y1 y2)) (j := 1) (.int .i64 y3)) (j := 2) (.int .u64 y4)) (j := 3) (.slice y5 y6 y7)) (j := 4) (.slice y8 y9 y10)) (j := 5) (.slice y11 y12 y13))
            rw [hW7.out, hx]; rfl
          have j0 := cell_of (j := 0) hk7 rfl
          have j1 := cell_of (j := 1) hk7 rfl
          have j2 := cell_of (j := 2) hk7 rfl
          have j3 := cell_of (j := 3) hk7 rfl
          have j4 := cell_of (j := 4) hk7 rfl
          have j5 := cell_of (j := 5) hk7 rfl
          refine bodyPost_ret (v := .tuple #[.agg #[.slice y0 y1 y2, .int .i64 y3, .int .u64 y4, .slice y5 y6 y7, .slice y8 y9 y10, .slice y11 y12 y13], .bool (re == 240)]) (by simp [results, Try.results12, go_sem, j0, j1, j2, j3, j4, j5]) rfl ?_
          have hw7 : W7 = w6 W9 B2 (.slice y0 y1 y2) (.int .i64 y3) (.int .u64 y4) (.slice y5 y6 y7) (.slice y8 y9 y10) (.slice y11 y12 y13) := hW7.out
          rw [HRR.out]
          refine ⟨_, rfl, ?_, by rw [hw7]; exact w6_below HB9.out (by have := HZ.out.1; omega) _ _ _ _ _ _⟩
          rw [hw7]
          exact IsBea.mono ((HBE.out.below HB9.out).keep fun p hp _ => World.cell?_of_block (w := W9) (w6_other (by have := HZ.out.1; have := hp.1; omega) _ _ _ _ _ _)) (fun q _ (hq : q < w.heap.size ∧ M q) => Or.inl hq.2)
      · skip
        go_simp
        refine nameG (w := W2.drew.alloc (.cells #[.slice none 0 0, .int .i64 0, .int .u64 0, .slice none 0 0, .slice none 0 0, .slice none 0 0] 32)) (p := fun W => K _ W) fun w7 hw7 => ?_
        obtain ⟨gn, hgn⟩ : ∃ g, g = W2.heap.size := ⟨_, rfl⟩
        have HGN : Hid (W2.heap.size ≤ gn) := Lib.hid (by rw [hgn]; exact Nat.le_refl _)
        have g7 : w7.heap[gn]? = some (.cells #[.slice none 0 0, .int .i64 0, .int .u64 0, .slice none 0 0, .slice none 0 0, .slice none 0 0] 32 (0, 0)) := by rw [hw7.out, hgn]; exact heap_alloc_new _ _
        have HB7 : Hid (Below W2.heap.size W2 w7) := Lib.hid (by rw [hw7.out]; exact HBa.out.alloc HBa.out.size _)
        have HS7 : Hid (w7.heap.size = gn + 1) := Lib.hid (by rw [hw7.out, hgn]; simp)
        rw [← hgn]
        have G7 := Lib.hid g7
        clear hgn g7 hw7
        refine hK.out _ _ (fun _ => HB7.out) (fun hHeld => ?_)
        replace hHeld := hHeld (by kernel_rfl)
        clear hK K
        (repeat (first | simp only [Act.put] | simp only [List.setIfInBounds_toArray] | simp only [List.set_cons_zero] | simp only [List.set_cons_succ]))
        refine AnyL.one (i := 14) (by kernel_rfl) rfl (fun K hK => ?_)
        go_simp
        go_at_call 17
        refine ((D1.out _ HB7.out).out).mono ?_
        rintro e w8 ⟨bv, rfl, hbv, hb8⟩
        have hb8w := HB7.out.trans (hb8.mono HB7.out.size)
        have HB8 := Lib.hid hb8w
        have hs7 := HS7.out
        have g8 := (hb8.block _ (by omega)).trans G7.out
        have hbv := IsBea.mono (M' := fun q => (M q ∨ w.heap.size ≤ q) ∧ q ≠ B2 ∧ q ≠ gn) hbv (fun q hql hq => by
          have zz1 := HZ.out.1
          have zz2 := HZ2.out
          have zz3 := HGN.out
          rcases hq with hq | hq
          · exact ⟨Or.inl hq.2, by have := hq.1; omega, by have := hq.1; omega⟩
          · have hq' : w7.heap.size ≤ q := hq
            exact ⟨Or.inr (by omega), by omega, by omega⟩)
        obtain ⟨z0, z1, z2, z3, z4, z5, z6, z7, z8, z9, z10, z11, z12, z13, rfl⟩ := hbv.shape
        have HBV8 := Lib.hid hbv
        have G8 := Lib.hid g8
        obtain ⟨⟨c0, c1, c2, c3, c4, c5⟩, ⟨f0, f1, f2, f3, f4, f5⟩⟩ := blk6 g8
        clear hbv hb8 hb8w hs7 g8 HB7 G7
        refine hK.out _ _ (fun _ => HB8.out) (fun hHeld => ?_)
        replace hHeld := hHeld (by kernel_rfl)
        clear hK K
        (repeat (first | simp only [Act.put] | simp only [List.setIfInBounds_toArray] | simp only [List.set_cons_zero] | simp only [List.set_cons_succ]))
        refine AnyL.take (i := 15) (v := ?_) rfl (by kernel_rfl) (by kernel_rfl) (fun _ _ _ h => h) (by kernel_rfl) (by kernel_rfl) (by kernel_rfl) (Or.inl ⟨by rfl, ?_⟩) hHeld ?_
        rotate_left 1
        focus (intro w hSw; (try dsimp only at hSw); go_simp; (try with_reducible rfl))
        (repeat (first | simp only [Act.put] | simp only [List.setIfInBounds_toArray] | simp only [List.set_cons_zero] | simp only [List.set_cons_succ]))
        refine AnyL.take (i := 16) (v := ?_) rfl (by kernel_rfl) (by kernel_rfl) (fun _ _ _ h => h) (by kernel_rfl) (by kernel_rfl) (by kernel_rfl) (Or.inl ⟨by rfl, ?_⟩) hHeld ?_
        rotate_left 1
        focus (intro w hSw; (try dsimp only at hSw); go_simp; (try with_reducible rfl))
        (repeat (first | simp only [Act.put] | simp only [List.setIfInBounds_toArray] | simp only [List.set_cons_zero] | simp only [List.set_cons_succ]))
        refine AnyL.late (i := 17) (v := ?_) rfl (by kernel_rfl) (by kernel_rfl) (fun _ _ _ h => h) (by kernel_rfl) (by kernel_rfl) (Or.inl ⟨by rfl, ?_⟩) (fun _ => hHeld) ?_
        rotate_left 1
        focus (intro w hSw; (try dsimp only at hSw); go_simp; (try with_reducible rfl))
        (repeat (first | simp only [Act.put] | simp only [List.setIfInBounds_toArray] | simp only [List.set_cons_zero] | simp only [List.set_cons_succ]))
        refine AnyL.one (i := 19) (by kernel_rfl) rfl (fun K hK => ?_)
        go_simp
        refine hK.out _ _ (fun h => nomatch (show true = false from h)) (fun _ => ?_)
        clear hK K
        (try dsimp only)
        refine AnyL.one (i := 20) (by kernel_rfl) rfl (fun K hK => ?_)
        go_simp
        refine hK.out _ _ (fun h => nomatch (show true = false from h)) (fun _ => ?_)
        clear hK K
        (try dsimp only)
        refine AnyL.done (by kernel_rfl) ?_
        clear c0 c1 c2 c3 c4 c5 f0 f1 f2 f3 f4 f5
        go_upto_region 11 with fail
        refine nameC fun W9 hW9 => ?_
        have hw9 : W9 = w6 w8 gn (.slice z0 z1 z2) (.int .i64 z3) (.int .u64 z4) (.slice z5 z6 z7) (.slice z8 z9 z10) (.slice z11 z12 z13) := hW9.out
        have hk9 : W9.heap[gn]? = some (.cells #[.slice z0 z1 z2, .int .i64 z3, .int .u64 z4, .slice z5 z6 z7, .slice z8 z9 z10, .slice z11 z12 z13] 32 (0, 0)) := by rw [hw9]; exact w6_at G8.out _ _ _ _ _ _
        have zz1 := HZ.out.1
        have zz2 := HZ2.out
        have zz3 := HGN.out
        have hk09 : W9.heap[w.heap.size]? = some (.cells #[.slice y0 y1 y2, .int .i64 y3, .int .u64 y4, .slice y5 y6 y7, .slice y8 y9 y10, .slice y11 y12 y13] 32 (0, 0)) := by rw [hw9, w6_other (by omega)]; exact (HB8.out.block _ (by omega)).trans HK02.out
        have hk29 : W9.heap[B2]? = some (.cells #[.slice none 0 0, .int .i64 0, .int .u64 0, .slice none 0 0, .slice none 0 0, .slice none 0 0] 32 (0, 0)) := by rw [hw9, w6_other (by omega)]; exact (HB8.out.block _ (by omega)).trans HK22.out
        have K9 := Lib.hid hk9
        have K09 := Lib.hid hk09
        have K29 := Lib.hid hk29
        have HB9 : Hid (Below w.heap.size w W9) := Lib.hid (by rw [hw9]; exact w6_below (HB2.out.trans (HB8.out.mono HB2.out.size)) (by omega) _ _ _ _ _ _)
        have HBV9 : Hid (IsBea W9 (fun q => (M q ∨ w.heap.size ≤ q) ∧ q ≠ B2 ∧ q ≠ gn) (.agg #[.slice z0 z1 z2, .int .i64 z3, .int .u64 z4, .slice z5 z6 z7, .slice z8 z9 z10, .slice z11 z12 z13]) rz.1) := Lib.hid (by rw [hw9]; exact HBV8.out.keep fun p hp _ => World.cell?_of_block (w := w8) (w6_other hp.2.2 _ _ _ _ _ _))
        have hne29 : B2 ≠ gn := by omega
        have hne09 : w.heap.size ≠ gn := by omega
        have hne02 : w.heap.size ≠ B2 := by omega
        clear HB8 HBV8 G8 hw9 hk9 hk09 hk29 hW9 zz1 zz2 zz3
        obtain ⟨re, hre⟩ : ∃ z, z = rz.2 := ⟨_, rfl⟩
        have HRE := Lib.hid hre
        rw [← hre]
        clear hre
        obtain ⟨⟨a0, a1, a2, a3, a4, a5⟩, ⟨p0, p1, p2, p3, p4, p5⟩⟩ := blk6 K09.out
        obtain ⟨⟨b0, b1, b2, b3, b4, b5⟩, ⟨q0, q1, q2, q3, q4, q5⟩⟩ := blk6 K29.out
        obtain ⟨⟨c0, c1, c2, c3, c4, c5⟩, ⟨f0, f1, f2, f3, f4, f5⟩⟩ := blk6 K9.out
        by_cases hre0 : re = 0
        · subst hre0
          have HRR : Hid (R = (rz.1, true)) := Lib.hid (by rw [HRC.out, if_pos HRE.out.symm])
          go_wp2_with fail
          refine nameG (p := fun W => bodyPost Try.prog Try.f12 _ Exit.ret _ W) fun W7 hW7 => ?_
          have hk7 : W7.heap[B2]? = some (.cells #[.slice z0 z1 z2, .int .i64 z3, .int .u64 z4, .slice z5 z6 z7, .slice z8 z9 z10, .slice z11 z12 z13] 32 (0, 0)) := by
            have hx := (Blk_set (Blk_set (Blk_set (Blk_set (Blk_set (Blk_set K29.out (j := 0) (.slice z0 z1 z2)) (j := 1) (.int .i64 z3)) (j := 2) (.int .u64 z4)) (j := 3) (.slice z5 z6 z7)) (j := 4) (.slice z8 z9 z10)) (j := 5) (.slice z11 z12 z13))
            rw [hW7.out, hx]; rfl
          have j0 := cell_of (j := 0) hk7 rfl
          have j1 := cell_of (j := 1) hk7 rfl
          have j2 := cell_of (j := 2) hk7 rfl
          have j3 := cell_of (j := 3) hk7 rfl
          have j4 := cell_of (j := 4) hk7 rfl
          have j5 := cell_of (j := 5) hk7 rfl
          refine bodyPost_ret (v := .tuple #[.agg #[.slice z0 z1 z2, .int .i64 z3, .int .u64 z4, .slice z5 z6 z7, .slice z8 z9 z10, .slice z11 z12 z13], .bool true]) (by simp [results, Try.results12, go_sem, j0, j1, j2, j3, j4, j5]) rfl ?_
          have hw7 : W7 = w6 W9 B2 (.slice z0 z1 z2) (.int .i64 z3) (.int .u64 z4) (.slice z5 z6 z7) (.slice z8 z9 z10) (.slice z11 z12 z13) := hW7.out
          rw [HRR.out]
          refine ⟨_, rfl, ?_, by rw [hw7]; exact w6_below HB9.out (by have := HZ.out.1; omega) _ _ _ _ _ _⟩
          rw [hw7]
          exact IsBea.mono (HBV9.out.keep fun p hp _ => World.cell?_of_block (w := W9) (w6_other hp.2.1 _ _ _ _ _ _)) (fun q _ (hq : (M q ∨ w.heap.size ≤ q) ∧ q ≠ B2 ∧ q ≠ gn) => hq.1)
        · have t2 : (re != 0) = true := by simp [hre0]
          have HRR : Hid (R = (b, re == 240)) := Lib.hid (by rw [HRC.out, if_neg (by rw [← HRE.out]; exact hre0), HRE.out])
          clear hre0
          go_wp2_with fail
          refine nameG (p := fun W => bodyPost Try.prog Try.f12 _ Exit.ret _ W) fun W7 hW7 => ?_
          have hk7 : W7.heap[B2]? = some (.cells #[.slice y0 y1 y2, .int .i64 y3, .int .u64 y4, .slice y5 y6 y7, .slice y8 y9 y10, .slice y11 y12 y13] 32 (0, 0)) := by
            have hx := (Blk_set (Blk_set (Blk_set (Blk_set (Blk_set (Blk_set K29.out (j := 0) (.slice y0 y1 y2)) (j := 1) (.int .i64 y3)) (j := 2) (.int .u64 y4)) (j := 3) (.slice y5 y6 y7)) (j := 4) (.slice y8 y9 y10)) (j := 5) (.slice y11 y12 y13))
            rw [hW7.out, hx]; rfl
          have j0 := cell_of (j := 0) hk7 rfl
          have j1 := cell_of (j := 1) hk7 rfl
          have j2 := cell_of (j := 2) hk7 rfl
          have j3 := cell_of (j := 3) hk7 rfl
          have j4 := cell_of (j := 4) hk7 rfl
          have j5 := cell_of (j := 5) hk7 rfl
          refine bodyPost_ret (v := .tuple #[.agg #[.slice y0 y1 y2, .int .i64 y3, .int .u64 y4, .slice y5 y6 y7, .slice y8 y9 y10, .slice y11 y12 y13], .bool (re == 240)]) (by simp [results, Try.results12, go_sem, j0, j1, j2, j3, j4, j5]) rfl ?_
          have hw7 : W7 = w6 W9 B2 (.slice y0 y1 y2) (.int .i64 y3) (.int .u64 y4) (.slice y5 y6 y7) (.slice y8 y9 y10) (.slice y11 y12 y13) := hW7.out
          rw [HRR.out]
          refine ⟨_, rfl, ?_, by rw [hw7]; exact w6_below HB9.out (by have := HZ.out.1; omega) _ _ _ _ _ _⟩
          rw [hw7]
          exact IsBea.mono ((HBE.out.below HB9.out).keep fun p hp _ => World.cell?_of_block (w := W9) (w6_other (by have := HZ.out.1; have := hp.1; omega) _ _ _ _ _ _)) (fun q _ (hq : q < w.heap.size ∧ M q) => Or.inl hq.2)
end Go.Proofs.Ytgaanndidcdbpaa
