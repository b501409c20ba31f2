import Derived.Test.YtpcodholllaceaaQ9
import Derived.Test.YtpcodholllaceaaQ7
namespace Go.Proofs.Ytpcodholllaceaa
open Go.RowKit Go.Shelf

theorem IsU64.atn {w wr : World} {M : Nat → Prop} {A : Option Addr} {n c k : Nat} {xs : List Nat} (h : IsU64 w M (.slice A n c) xs) (hb : Below w.heap.size w wr) (hk : k < xs.length) :
    ∃ b off, A = some ⟨b, off, none⟩ ∧ b < w.heap.size ∧ wr.cell? ⟨b, off + k, none⟩ = some (.int .u64 ((nth xs k : Nat) : Int)) := by
  obtain ⟨A', c', e, _, _, h3⟩ := h
  cases e
  obtain ⟨b, off, e, _, hl, hc⟩ := h3.at1 hb hk
  exact ⟨b, off, e, hl, hc⟩
theorem IsShs.atn {w wr : World} {M : Nat → Prop} {A : Option Addr} {n c k : Nat} {xs : List (Nat × Nat)} (h : IsShs w M (.slice A n c) xs) (hb : Below w.heap.size w wr) (hk : k < xs.length) :
    ∃ b off, A = some ⟨b, off, none⟩ ∧ b < w.heap.size ∧ wr.cell? ⟨b, off + k * 2 + 1, none⟩ = some (.int .u64 ((sndD xs k : Nat) : Int)) := by
  obtain ⟨A', c', e, _, _, h3⟩ := h
  cases e
  obtain ⟨b, off, e, _, hl, hc, hc1⟩ := h3.at2 hb hk
  exact ⟨b, off, e, hl, hc1⟩
/-- the sums of the first k coefficients -/
def sumsTo (a b : List Nat) (k : Nat) : List Nat := (List.range k).map fun i => plusQ (nth a i) (nth b i)
theorem sumsTo_len (a b : List Nat) (k : Nat) : (sumsTo a b k).length = k := by simp [sumsTo]
theorem sumsTo_succ (a b : List Nat) (k : Nat) : (sumsTo a b k).map u64v ++ [u64v (plusQ (nth a k) (nth b k))] = (sumsTo a b (k + 1)).map u64v := by
  unfold sumsTo
  rw [List.range_succ, List.map_append, List.map_append]
  rfl
theorem sumsTo_nth {a b : List Nat} {k i : Nat} (h : i < k) : nth (sumsTo a b k) i = plusQ (nth a i) (nth b i) := by
  unfold nth sumsTo
  rw [List.getD_eq_getElem?_getD, List.getElem?_map, List.getElem?_range h]
  rfl
theorem sumsTo_lt {a b : List Nat} {k : Nat} : ∀ c ∈ sumsTo a b k, c < 1152921504606845789 := by
  intro c hc
  unfold sumsTo at hc
  rw [List.mem_map] at hc
  obtain ⟨i, _, rfl⟩ := hc
  exact plusQ_lt _ _
theorem sumsTo_ok {a b : List Nat} {k : Nat} (h1 : 1 ≤ k) (h2 : k ≤ 24) : allD coefOk (sumsTo a b k) = true := by
  unfold allD
  rw [sumsTo_len, lenOk_yes h1 h2, Bool.true_and, List.all_eq_true]
  intro c hc
  exact decide_eq_true (sumsTo_lt c hc)
theorem plusQ_small {a b : Nat} : plusQ a b = (a + b) % 1152921504606845789 := by unfold plusQ; rw [← Nat.add_mod]
theorem sumsTo_zip {a b : List Nat} (h : a.length = b.length) : sumsTo a b a.length = List.zipWith (fun c d => (c + d) % 1152921504606845789) a b := by
  refine List.ext_getElem (by rw [sumsTo_len, List.length_zipWith, ← h, Nat.min_self]) (fun i h1 h2 => ?_)
  have hi : i < a.length := by rw [sumsTo_len] at h1; exact h1
  have e := sumsTo_nth (a := a) (b := b) hi
  rw [nth_get h1, nth_get hi, nth_get (by omega), plusQ_small] at e
  rw [e, List.getElem_zipWith]
theorem sumsTo_hor {a b : List Nat} (h : a.length = b.length) (x : Nat) : hor (sumsTo a b a.length) x = plusQ (hor a x) (hor b x) := by
  rw [sumsTo_zip h, hor_add x a b h, plusQ_small]
theorem shsTo_snd (cs : List Nat) {N i : Nat} (h : i < N) : sndD (shsTo cs N) i = hor cs (i + 1) := by
  unfold sndD
  rw [List.getD_eq_getElem?_getD, shsTo_at cs h]
  rfl
theorem map_nth {cs : List Nat} {f : Nat → Nat} {i : Nat} (h : i < cs.length) : nth (cs.map f) i = f (nth cs i) := by
  unfold nth
  rw [List.getD_eq_getElem?_getD, List.getElem?_map, List.getElem?_eq_getElem h, List.getD_eq_getElem?_getD, List.getElem?_eq_getElem h]
  rfl
theorem nth_lt {cs : List Nat} (h : allD coefOk cs = true) (i : Nat) : nth cs i < 1152921504606845789 := getD_ltQ (fun c hc => of_decide_eq_true ((all_mem h).2.2 c hc)) i
/-- Split, where it serves -/
theorem split_ok (W : World) (M : Nat → Prop) (v : Value) (xs : List Nat) (h : IsU64 W M v xs) (N : Nat) (ha : allD coefOk xs = true) (h1 : 1 ≤ N) (h2 : N ≤ 192) :
    Calls Try.prog 14 #[v, .int .i64 (N : Int)] W fun e w' => ∃ A d, e = .returned (.tuple #[.slice A N d, .int .i64 0]) ∧ N ≤ d ∧ IsShs w' (fun b => W.heap.size ≤ b) (.slice A N d) (shsTo xs N) ∧ Below W.heap.size W w' := by
  have := split_any W M v xs h (N : Int)
  rw [splitD_yes ha h1 h2] at this
  refine this.mono ?_
  rintro e w' ⟨v', rfl, hI, hb⟩
  have hI' := hI
  obtain ⟨A1, d1, rfl, hd1, -, -⟩ := hI
  rw [shsTo_len] at hd1 hI' ⊢
  exact ⟨A1, d1, rfl, hd1, hI', hb⟩
/-- Powers, where it serves -/
theorem powers_ok (W : World) (M : Nat → Prop) (v : Value) (xs : List Nat) (h : IsU64 W M v xs) (hx : U64s xs) (L : Nat) (hL : xs.length = L) (ha : allD coefOk xs = true) :
    Calls Try.prog 12 #[v] W fun e w' => ∃ A d, e = .returned (.tuple #[.slice A L d, .int .i64 0]) ∧ L ≤ d ∧ IsU64 w' (fun b => W.heap.size ≤ b) (.slice A L d) (xs.map (pw 4)) ∧ Below W.heap.size W w' := by
  have := powers_any W M v xs h hx
  rw [powersD_yes ha] at this
  refine this.mono ?_
  rintro e w' ⟨v', rfl, hI, hb⟩
  have hI' := hI
  obtain ⟨A1, d1, rfl, hd1, -, -⟩ := hI
  rw [List.length_map, hL] at hd1 hI' ⊢
  exact ⟨A1, d1, rfl, hd1, hI', hb⟩
set_option maxRecDepth 100000 in
set_option maxHeartbeats 4000000 in
theorem law8_go (w : World) (M M' : Nat → Prop) (A B : Option Addr) (ca cb L : Nat) (a b : List Nat) (ha : IsU64 w M (.slice A L ca) a) (hb : IsU64 w M' (.slice B L cb) b) (hxa : U64s a) (hxb : U64s b) (haL : a.length = L) (hbL : b.length = L) (hL5 : L ≤ 5)
    (N : Nat) (n1 : 1 ≤ N) (n2 : N ≤ 12) (oa : allD coefOk a = true) (ob : allD coefOk b = true) :
    Calls Try.prog 8 #[.slice A L ca, .slice B L cb, .int .i64 (N : Int)] w fun e w' => e = .returned (.bool true) ∧ Below w.heap.size w w' := by
  have HA := Lib.hid ha
  have HB := Lib.hid hb
  have CS := fun W => Lib.hid (sane_any W)
  have C2 := fun W (hB : Below w.heap.size w W) => Lib.hid (split_ok W M _ a (ha.below hB) N oa n1 (by omega))
  have C3 := fun W (hB : Below w.heap.size w W) => Lib.hid (split_ok W M' _ b (hb.below hB) N ob n1 (by omega))
  have hL1 : 1 ≤ L := by rw [← haL]; exact (all_mem oa).1
  have oc : allD coefOk (sumsTo a b L) = true := sumsTo_ok hL1 (by omega)
  have hxc : U64s (sumsTo a b L) := fun c hc => Nat.lt_trans (sumsTo_lt c hc) (by decide)
  have C4 := fun W M'' v' (hI : IsU64 W M'' v' (sumsTo a b L)) => Lib.hid (split_ok W M'' v' _ hI N oc n1 (by omega))
  have C5 := fun W (hB : Below w.heap.size w W) => Lib.hid (powers_ok W M _ a (ha.below hB) hxa L haL oa)
  have C6 := fun W (hB : Below w.heap.size w W) => Lib.hid (powers_ok W M' _ b (hb.below hB) hxb L hbL ob)
  have C7 := fun W M'' v' (hI : IsU64 W M'' v' (sumsTo a b L)) => Lib.hid (powers_ok W M'' v' _ hI hxc L (sumsTo_len _ _ _) oc)
  have HaL := Lib.hid haL
  have HbL := Lib.hid hbL
  have HOA := Lib.hid oa
  have HOB := Lib.hid ob
  have g1 : ((L : Int) != (L : Int)) = false := by simp
  have g2 : ((N : Int) != (N : Int)) = false := by simp
  have g3 : decide ((5 : Int) < (L : Int)) = false := by simp; omega
  have g4 : decide ((12 : Int) < (N : Int)) = false := by simp; omega
  obtain ⟨iu, hiu, hz0, hz1, hz2⟩ := info_parts Try.info_u64
  have HIU := Lib.hid (And.intro hiu (And.intro hz0 (And.intro hz1 hz2)))
  clear hiu hz0 hz1 hz2 ha hb hxa hxb haL hbL oa ob oc hxc
  go_enter Try.func8, Try.ntmps8
  go_wp2_with fail
  refine (CS _).out.mono ?_
  rintro e w1 ⟨rfl, hb1⟩
  have HB1 := Lib.hid hb1
  clear hb1
  go_wp2_with fail
  refine (C2 _ HB1.out).out.mono ?_
  rintro e w2 ⟨A2, d2, rfl, hd2, hI2, hb2⟩
  have HB2 := Lib.hid (HB1.out.trans (hb2.mono HB1.out.size))
  have HI2 := Lib.hid hI2
  clear hI2 hb2
  go_wp2_with fail
  refine (C3 _ HB2.out).out.mono ?_
  rintro e w3 ⟨A3, d3, rfl, hd3, hI3, hb3⟩
  have HB3 := Lib.hid (HB2.out.trans (hb3.mono HB2.out.size))
  have HI2' := Lib.hid (IsSl.below HI2.out hb3)
  have HI3 := Lib.hid hI3
  clear hI3 hb3 HI2
  go_wp2_with fail
  have HE : Hid ((w3.alloc (.cells #[] 22)).ownsRow w3.heap.size 22 1 (.slice (some ⟨w3.heap.size, 0, none⟩) 0 0) 0 []) := own_empty (by rw [heap_alloc_if, if_pos rfl]) (Nat.le_refl _)
  go_loopw [11, 12] (fun v i wr => ∃ k : Nat, k ≤ L ∧ i = .int .i64 k ∧ Hid (wr.ownsRow w3.heap.size 22 1 v k ((sumsTo a b k).map u64v)) ∧ Hid (Below w3.heap.size w3 wr)) (fun _ i _ => L - (intOf i).toNat)
  case atStart => exact ⟨0, Nat.zero_le _, rfl, HE, Lib.hid ((Below.refl _ _).alloc (Nat.le_refl _) _)⟩
  case round =>
    obtain ⟨k, hk, rfl, HO, HBw⟩ := hrel
    by_cases hlt : k < L
    · have hBw := HB3.out.trans (HBw.out.mono HB3.out.size)
      obtain ⟨b1, o1, rfl, hbl1, M1⟩ := HA.out.atn HB3.out (by rw [HaL.out]; exact hlt)
      obtain ⟨b2, o2, rfl, hbl2, M2⟩ := HB.out.atn HB3.out (by rw [HbL.out]; exact hlt)
      have hw3 := HB3.out.size
      have hbl1' : b1 < w3.heap.size := by omega
      have hbl2' : b2 < w3.heap.size := by omega
      have m1 := (HBw.out.cell (p := ⟨b1, o1 + k, none⟩) hbl1').trans M1
      have m2 := (HBw.out.cell (p := ⟨b2, o2 + k, none⟩) hbl2').trans M2
      have HM1 := Lib.hid M1
      have HM2 := Lib.hid M2
      clear M1 M2
      have hlt' : (k : Int) < (L : Int) := by omega
      have hk0 : (0 : Int) ≤ (k : Int) := by omega
      have CP := fun W => Lib.hid (Plus_any (nth a k) (nth b k) W)
      have MS := Lib.hid (sumsTo_succ a b k)
      generalize nth a k = x at m1 CP MS HM1
      generalize nth b k = y at m2 CP MS HM2
      generalize plusQ x y = z at CP MS
      have hsq := HBw.out.size
      have hob := own_base HO.out
      have HOB' := Lib.hid hob
      clear hBw hob
      go_wp2_with fail
      go_region_held3 (fun w' => w'.cell? ⟨b1, o1 + k, none⟩ = some (.int .u64 (x : Int)) ∧ w'.cell? ⟨b2, o2 + k, none⟩ = some (.int .u64 (y : Int))) (first | with_reducible exact ⟨m1, m2⟩ | with_reducible exact ⟨p1, p2⟩ | go_keep) (first | (go_at_call 25; refine (CP _).out.mono ?_; rintro e w9 ⟨rfl, rfl⟩) | (refine step_append_cells _ rfl (.tmp 64) (.tmp 74) 23 rfl w3.heap.size 22 iu (.int .u64 0) 1 8 Try.underlying23 HIU.out.1 HIU.out.2.1 HIU.out.2.2.1 HIU.out.2.2.2 rfl (by decide) _ k ((sumsTo a b k).map u64v) rfl (by first | exact HO.out.alloc _ | exact HO.out.drew.alloc _ | exact (HO.out.alloc _).drew) (some ⟨wr.heap.size, 0, none⟩) 1 1 [u64v z] (by first | rfl | go_simp) rfl (by first | exact fun _ => ⟨_, rfl, cell_one_new _ _ _⟩ | exact fun _ _ h => h) (by first | exact one_u64 _ | rfl) (by unfold maxLen; omega) (by omega) (by first | omega | (simp; done) | (simp; omega)) ?_; intro v7 w7 hown7 hgrow7 hd7; clear hd7; rw [MS.out] at hown7; have HO7 := Lib.hid hown7; have HB7 : Hid (Below w3.heap.size w3 w7) := Below.grown (by first | exact HBw.out.alloc hsq _ | exact HBw.out.drew.alloc hsq _ | exact (HBw.out.alloc hsq _).drew) hgrow7 (by first | omega | (simp; omega)) HOB'.out; clear hown7 hgrow7; have p1 := (HB7.out.cell (p := ⟨b1, o1 + k, none⟩) hbl1').trans HM1.out; have p2 := (HB7.out.cell (p := ⟨b2, o2 + k, none⟩) hbl2').trans HM2.out))
      all_goals
        go_wp2_with fail
        go_roundw
        case rel => exact ⟨k + 1, by omega, by go_num, HO7, HB7⟩
        case measure => simp [intOf]; omega
    · have hnl : ¬ (k : Int) < (L : Int) := by omega
      obtain rfl : L = k := by omega
      obtain ⟨A11, d11, rfl⟩ := own_slice HO.out
      have HIc : Hid (IsU64 wr (fun b => w3.heap.size ≤ b) (.slice A11 L d11) (sumsTo a b L)) := IsU64.ofOwn (by rw [sumsTo_len]; exact HO.out)
      have HBW := Lib.hid (HB3.out.trans (HBw.out.mono HB3.out.size))
      have HI2 := Lib.hid (IsSl.below HI2'.out HBw.out)
      have HI3' := Lib.hid (IsSl.below HI3.out HBw.out)
      have C4' := Lib.hid (C4 _ _ _ HIc.out).out
      clear HE HI2' HI3 C4 C2 C3
      go_wp2_with fail
      refine C4'.out.mono ?_
      rintro e w4 ⟨A4, d4, rfl, hd4, hI4, hb4⟩
      have HB4 := Lib.hid (HBW.out.trans (hb4.mono HBW.out.size))
      have HIc4 := Lib.hid (IsSl.below HIc.out hb4)
      have HI2' := Lib.hid (IsSl.below HI2.out hb4)
      have HI3 := Lib.hid (IsSl.below HI3'.out hb4)
      have HI4 := Lib.hid hI4
      clear hI4 hb4 HIc HI2 HI3'
      go_wp2_with fail
      refine (C5 _ HB4.out).out.mono ?_
      rintro e w5 ⟨A5, d5, rfl, hd5, hI5, hb5⟩
      have HB5 := Lib.hid (HB4.out.trans (hb5.mono HB4.out.size))
      have HIc := Lib.hid (IsSl.below HIc4.out hb5)
      have HI2 := Lib.hid (IsSl.below HI2'.out hb5)
      have HI3' := Lib.hid (IsSl.below HI3.out hb5)
      have HI4' := Lib.hid (IsSl.below HI4.out hb5)
      have HI5 := Lib.hid hI5
      clear hI5 hb5 HIc4 HI2' HI3 HI4
      go_wp2_with fail
      refine (C6 _ HB5.out).out.mono ?_
      rintro e w6 ⟨A6, d6, rfl, hd6, hI6, hb6⟩
      have HB6 := Lib.hid (HB5.out.trans (hb6.mono HB5.out.size))
      have HIc4 := Lib.hid (IsSl.below HIc.out hb6)
      have HI2' := Lib.hid (IsSl.below HI2.out hb6)
      have HI3 := Lib.hid (IsSl.below HI3'.out hb6)
      have HI4 := Lib.hid (IsSl.below HI4'.out hb6)
      have HI5' := Lib.hid (IsSl.below HI5.out hb6)
      have HI6 := Lib.hid hI6
      have C7' := Lib.hid (C7 _ _ _ HIc4.out).out
      clear hI6 hb6 HIc HI2 HI3' HI4' HI5 C7
      go_wp2_with fail
      refine C7'.out.mono ?_
      rintro e w7 ⟨A7, d7, rfl, hd7, hI7, hb7⟩
      have HB7 := Lib.hid (HB6.out.trans (hb7.mono HB6.out.size))
      have HI2 := Lib.hid (IsSl.below HI2'.out hb7)
      have HI3' := Lib.hid (IsSl.below HI3.out hb7)
      have HI4' := Lib.hid (IsSl.below HI4.out hb7)
      have HI5 := Lib.hid (IsSl.below HI5'.out hb7)
      have HI6' := Lib.hid (IsSl.below HI6.out hb7)
      have HI7 := Lib.hid hI7
      clear hI7 hb7 HIc4 HI2' HI3 HI4 HI5' HI6
      go_wp2_with fail
      go_loopw [21] (fun i wx => ∃ k : Nat, k ≤ N ∧ i = .int .i64 k ∧ Hid (Drn w7 wx)) (fun i _ => N - (intOf i).toNat)
      case atStart => exact ⟨0, Nat.zero_le _, rfl, Lib.hid (Drn.refl _)⟩
      case round =>
        obtain ⟨k, hk, rfl, HD⟩ := hrel
        by_cases hlt : k < N
        · have hbx := drn_below HD.out
          have hlt' : (k : Int) < (N : Int) := by omega
          have hk0 : (0 : Int) ≤ (k : Int) := by omega
          obtain ⟨b2, o2, rfl, -, m2⟩ := IsShs.atn (k := k) HI2.out hbx (by rw [shsTo_len]; exact hlt)
          obtain ⟨b3, o3, rfl, -, m3⟩ := IsShs.atn (k := k) HI3'.out hbx (by rw [shsTo_len]; exact hlt)
          obtain ⟨b4, o4, rfl, -, m4⟩ := IsShs.atn (k := k) HI4'.out hbx (by rw [shsTo_len]; exact hlt)
          rw [shsTo_snd _ hlt] at m2 m3 m4
          have hs := sumsTo_hor (a := a) (b := b) (by rw [HaL.out, HbL.out]) (k + 1)
          rw [HaL.out] at hs
          rw [hs] at m4
          have CP := fun W => Lib.hid (Plus_any (hor a (k + 1)) (hor b (k + 1)) W)
          generalize plusQ (hor a (k + 1)) (hor b (k + 1)) = z at CP m4
          generalize hor a (k + 1) = x at CP m2
          generalize hor b (k + 1) = y at CP m3
          have g5 : ((z : Int) != (z : Int)) = false := by simp
          clear hs hbx
          go_wp2_with fail
          go_quiet ((go_at_call 25; exact quiet_same (CP _).out))
          go_wp2_with fail
          go_roundw
          case rel => exact ⟨k + 1, by omega, by go_num, Lib.hid (HD.out.drewN _)⟩
          case measure => simp [intOf]; omega
        · have hnl : ¬ (k : Int) < (N : Int) := by omega
          obtain rfl : N = k := by omega
          have HD0 := HD
          clear HI2 HI3' HI4' HD
          go_wp2_with fail
          go_loopw [22] (fun i wx => ∃ k : Nat, k ≤ L ∧ i = .int .i64 k ∧ Hid (Drn w7 wx)) (fun i _ => L - (intOf i).toNat)
          case atStart => exact ⟨0, Nat.zero_le _, rfl, HD0⟩
          case round =>
            obtain ⟨k, hk, rfl, HD⟩ := hrel
            have hbx := drn_below HD.out
            by_cases hlt : k < L
            · have hlt' : (k : Int) < (L : Int) := by omega
              have hk0 : (0 : Int) ≤ (k : Int) := by omega
              obtain ⟨b1, o1, rfl, -, m1⟩ := HA.out.atn (HB7.out.trans (hbx.mono HB7.out.size)) (by rw [HaL.out]; exact hlt)
              obtain ⟨b2, o2, rfl, -, m2⟩ := HB.out.atn (HB7.out.trans (hbx.mono HB7.out.size)) (by rw [HbL.out]; exact hlt)
              obtain ⟨b5, o5, rfl, -, m5⟩ := IsU64.atn (k := k) HI5.out hbx (by rw [List.length_map, HaL.out]; exact hlt)
              obtain ⟨b6, o6, rfl, -, m6⟩ := IsU64.atn (k := k) HI6'.out hbx (by rw [List.length_map, HbL.out]; exact hlt)
              obtain ⟨b7, o7, rfl, -, m7⟩ := IsU64.atn (k := k) HI7.out hbx (by rw [List.length_map, sumsTo_len]; exact hlt)
              rw [map_nth (by rw [HaL.out]; exact hlt)] at m5
              rw [map_nth (by rw [HbL.out]; exact hlt)] at m6
              rw [map_nth (by rw [sumsTo_len]; exact hlt), sumsTo_nth hlt] at m7
              have CP := fun W => Lib.hid (Plus_any (nth a k) (nth b k) W)
              have CW := fun W => Lib.hid (Pow_any 4 (plusQ (nth a k) (nth b k)) (Nat.lt_trans (plusQ_lt _ _) (by decide)) W)
              have CR := fun W => Lib.hid (product_any (pw 4 (nth a k)) (pw 4 (nth b k)) W)
              rw [← pw4_add (nth_lt HOA.out k) (nth_lt HOB.out k), ← plusQ_small] at CR
              generalize plusQ (nth a k) (nth b k) = z at CP CW CR m7
              generalize pw 4 z = pz at CW CR m7
              generalize pw 4 (nth a k) = pa at CR m5
              generalize pw 4 (nth b k) = pb at CR m6
              generalize nth a k = x at CP m1
              generalize nth b k = y at CP m2
              have g5 : ((pz : Int) != (pz : Int)) = false := by simp
              clear hbx
              go_wp2_with fail
              go_quiet ((first | (go_at_call 25; exact quiet_same (CP _).out) | (go_at_call 16; exact Calls.quiet_of (CW _).out) | (go_at_call 26; exact quiet_same (CR _).out)))
              go_wp2_with fail
              go_roundw
              case rel => exact ⟨k + 1, by omega, by go_num, Lib.hid (HD.out.drewN _)⟩
              case measure => simp [intOf]; omega
            · have hnl : ¬ (k : Int) < (L : Int) := by omega
              have HBX := Lib.hid (HB7.out.trans (hbx.mono HB7.out.size))
              clear hbx
              go_wp2_with fail
              go_ret
              exact ⟨rfl, HBX.out⟩
set_option maxRecDepth 100000 in
set_option maxHeartbeats 1000000 in
theorem law8 (w : World) (M M' : Nat → Prop) (v v' : Value) (a b : List Nat) (ha : IsU64 w M v a) (hb : IsU64 w M' v' b) (hxa : U64s a) (hxb : U64s b) (_hla : a.length ≤ 140737488355328) (_hlb : b.length ≤ 140737488355328) (n : Int) :
    Calls Try.prog 8 #[v, v', .int .i64 n] w fun e w' => e = .returned (.bool true) ∧ Below w.heap.size w w' := by
  have HA := Lib.hid ha
  have HB := Lib.hid hb
  have CS := fun W => Lib.hid (sane_any W)
  have C2 := fun W (hB : Below w.heap.size w W) => Lib.hid (split_any W M _ a (ha.below hB) n)
  have C3 := fun W (hB : Below w.heap.size w W) => Lib.hid (split_any W M' _ b (hb.below hB) n)
  obtain ⟨A, ca, rfl, -, -, -⟩ := ha
  obtain ⟨B, cb, rfl, -, -, -⟩ := hb
  by_cases h5 : 5 < a.length
  · have g3 : decide ((5 : Int) < (a.length : Int)) = true := by simp; omega
    go_enter Try.func8, Try.ntmps8
    go_wp2_with fail
    refine (CS _).out.mono ?_
    rintro e w1 ⟨rfl, hb1⟩
    go_wp2_with fail
    go_ret
    exact ⟨rfl, hb1⟩
  · have g3 : decide ((5 : Int) < (a.length : Int)) = false := by simp; omega
    by_cases hab : a.length = b.length
    · by_cases h12 : 12 < n
      · have g1 : ((a.length : Int) != (b.length : Int)) = false := by simp; omega
        have g4 : decide ((12 : Int) < n) = true := by simp; omega
        clear hab
        go_enter Try.func8, Try.ntmps8
        go_wp2_with fail
        refine (CS _).out.mono ?_
        rintro e w1 ⟨rfl, hb1⟩
        go_wp2_with fail
        go_ret
        exact ⟨rfl, hb1⟩
      · by_cases hn : 1 ≤ n
        · by_cases hok : allD coefOk a = true ∧ allD coefOk b = true
          · obtain ⟨N, rfl⟩ : ∃ N : Nat, n = (N : Int) := ⟨n.toNat, by omega⟩
            have hB2 := HB.out
            rw [← hab] at hB2 ⊢
            exact law8_go w M M' A B ca cb a.length a b HA.out hB2 hxa hxb rfl hab.symm (by omega) N (by omega) (by omega) hok.1 hok.2
          · have g1 : ((a.length : Int) != (b.length : Int)) = false := by simp; omega
            have g4 : decide ((12 : Int) < n) = false := by simp; omega
            have hpq : ∃ c2 c3 : Int, (splitD a n).2 = c2 ∧ (splitD b n).2 = c3 ∧ ((c2 != 0) = true ∨ ((c2 != 0) = false ∧ (c3 != 0) = true)) := by
              refine ⟨_, _, rfl, rfl, ?_⟩
              by_cases oa : allD coefOk a = true
              · right
                have e1 : splitD a n = (shsTo a n.toNat, 0) := by
                  have := splitD_yes (n := n.toNat) oa (by omega) (by omega)
                  rw [show ((n.toNat : Nat) : Int) = n by omega] at this
                  exact this
                rw [e1, splitD_no (fun h => hok ⟨oa, h.1⟩)]
                exact ⟨rfl, rfl⟩
              · left
                rw [splitD_no (fun h => oa h.1)]
                rfl
            obtain ⟨c2, c3, e2, e3, hcc⟩ := hpq
            generalize splitD a n = S2 at C2 e2
            generalize splitD b n = S3 at C3 e3
            obtain ⟨s2, c2'⟩ := S2
            obtain ⟨s3, c3'⟩ := S3
            dsimp only at e2 e3
            subst e2
            subst e3
            clear hab hok
            rcases hcc with hc | ⟨hc, hc'⟩
            all_goals
              go_enter Try.func8, Try.ntmps8
              go_wp2_with fail
              refine (CS _).out.mono ?_
              rintro e w1 ⟨rfl, hb1⟩
              have HB1 := Lib.hid hb1
              clear hb1
              go_wp2_with fail
              refine (C2 _ HB1.out).out.mono ?_
              rintro e w2 ⟨v2, rfl, hI2, hb2⟩
              have HB2 := Lib.hid (HB1.out.trans (hb2.mono HB1.out.size))
              clear hI2 hb2
              go_wp2_with fail
              refine (C3 _ HB2.out).out.mono ?_
              rintro e w3 ⟨v3, rfl, hI3, hb3⟩
              have HB3 := Lib.hid (HB2.out.trans (hb3.mono HB2.out.size))
              clear hI3 hb3
              go_wp2_with fail
              go_ret
              exact ⟨rfl, HB3.out⟩
        · have g1 : ((a.length : Int) != (b.length : Int)) = false := by simp; omega
          have g4 : decide ((12 : Int) < n) = false := by simp; omega
          rw [splitD_no (fun h => hn h.2.1)] at C2 C3
          clear hab
          go_enter Try.func8, Try.ntmps8
          go_wp2_with fail
          refine (CS _).out.mono ?_
          rintro e w1 ⟨rfl, hb1⟩
          have HB1 := Lib.hid hb1
          clear hb1
          go_wp2_with fail
          refine (C2 _ HB1.out).out.mono ?_
          rintro e w2 ⟨v2, rfl, hI2, hb2⟩
          have HB2 := Lib.hid (HB1.out.trans (hb2.mono HB1.out.size))
          clear hI2 hb2
          go_wp2_with fail
          refine (C3 _ HB2.out).out.mono ?_
          rintro e w3 ⟨v3, rfl, hI3, hb3⟩
          have HB3 := Lib.hid (HB2.out.trans (hb3.mono HB2.out.size))
          clear hI3 hb3
          go_wp2_with fail
          go_ret
          exact ⟨rfl, HB3.out⟩
    · have g1 : ((a.length : Int) != (b.length : Int)) = true := by simp; omega
      clear hab
      go_enter Try.func8, Try.ntmps8
      go_wp2_with fail
      refine (CS _).out.mono ?_
      rintro e w1 ⟨rfl, hb1⟩
      go_wp2_with fail
      go_ret
      exact ⟨rfl, hb1⟩
end Go.Proofs.Ytpcodholllaceaa
