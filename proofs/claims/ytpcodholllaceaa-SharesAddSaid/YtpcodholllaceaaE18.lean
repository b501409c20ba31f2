import Derived.Test.YtpcodholllaceaaE17
namespace Go.Proofs.Ytpcodholllaceaa
open Go.RowKit Go.Shelf

theorem join_any (w : World) (M : Nat → Prop) (v : Value) (l : List (Nat × Nat)) (h : IsShs w M v l) (hlen : l.length ≤ 8796093022208) (t : Int) :
    Calls Try.prog 22 #[v, .int .i64 t] w (NumE w (joinD l t)) := by
  by_cases ht : 1 ≤ t ∧ t ≤ 24
  · obtain ⟨T, rfl⟩ : ∃ T : Nat, t = (T : Int) := ⟨t.toNat, by omega⟩
    by_cases hall : l.all shOk = true
    · exact join_go w M v l h hlen T (by omega) (by omega) hall
    · have hall : l.all shOk = false := by simpa using hall
      rw [joinD_bad hall]
      have H := Lib.hid h
      obtain ⟨A, c, rfl, h1, h2, -⟩ := h
      have C1 := fun W (hB : Below w.heap.size w W) => Lib.hid (joinAsk_any W M A c l (H.out.below hB) (by omega))
      rw [hall] at C1
      have b1 : decide ((T : Int) < 1) = false := by simp; omega
      have b2 : decide ((24 : Int) < (T : Int)) = false := by simp; omega
      clear hall
      go_enter Try.func22, Try.ntmps22
      go_wp2_with fail
      refine (C1 _ (Below.refl _ _)).out.mono ?_
      rintro e w1 ⟨rfl, hb1⟩
      have HB1 := Lib.hid hb1
      clear hb1
      go_wp2_with fail
      go_ret2
      exact ⟨rfl, HB1.out⟩
  · rw [joinD_out ht]
    by_cases h1 : t < 1
    · have b1 : decide (t < 1) = true := by simpa using h1
      go_enter Try.func22, Try.ntmps22
      go_wp2_with fail
      go_ret2
      exact ⟨rfl, Below.refl _ _⟩
    · have b1 : decide (t < 1) = false := by simpa using h1
      have b2 : decide (24 < t) = true := by simp; omega
      go_enter Try.func22, Try.ntmps22
      go_wp2_with fail
      go_ret2
      exact ⟨rfl, Below.refl _ _⟩
theorem any_take_succ {α : Type} (f : List α) (p : α → Bool) (j : Nat) (h : j < f.length) : (f.take (j + 1)).any p = ((f.take j).any p || p f[j]) := by
  rw [List.take_succ_eq_append_getElem h, List.any_append, List.any_cons, List.any_nil, Bool.or_false]
theorem step_add' {l : List (Nat × Nat)} {T k : Nat} (hk : k < l.length) (h : (fstTo l T k).any (fun u => u.1 == l[k].1) = false) (h2 : (fstTo l T k).length < T) : fstTo l T (k + 1) = fstTo l T k ++ [l[k]] := by
  rw [fstTo_succ hk]; unfold firstStep; rw [if_pos ⟨h, h2⟩]
theorem step_same' {l : List (Nat × Nat)} {T k : Nat} (hk : k < l.length) (h : (fstTo l T k).any (fun u => u.1 == l[k].1) = true ∨ T ≤ (fstTo l T k).length) : fstTo l T (k + 1) = fstTo l T k := by
  rw [fstTo_succ hk]
  unfold firstStep
  rw [if_neg]
  rintro ⟨h1, h2⟩
  rcases h with h | h
  · rw [h] at h1; cases h1
  · omega
set_option maxRecDepth 100000 in
set_option maxHeartbeats 2000000 in
theorem refJoin_go (w : World) (M : Nat → Prop) (v : Value) (l : List (Nat × Nat)) (h : IsShs w M v l) (T : Nat) (t1 : 1 ≤ T) (t2 : T ≤ 24) :
    Calls Try.prog 23 #[v, .int .i64 (T : Int)] w (NumE w (joinD l (T : Int))) := by
  have H := Lib.hid h
  obtain ⟨A, c, rfl, h1, h2, -⟩ := h
  have b1 : decide ((T : Int) < 1) = false := by simp; omega
  have b2 : decide ((24 : Int) < (T : Int)) = false := by simp; omega
  go_enter Try.func23, Try.ntmps23
  go_wp2_with fail
  have hE : (w.alloc (.cells #[] 36)).heap[w.heap.size]? = some (.cells #[] 36 (0, 0)) := by rw [heap_alloc_if, if_pos rfl]
  have HE : Hid ((w.alloc (.cells #[] 36)).ownsRow w.heap.size 36 2 (.slice (some ⟨w.heap.size, 0, none⟩) 0 0) 0 []) := own_empty hE (Nat.le_refl _)
  clear hE
  go_loopw [6, 7] (fun v i wr => ∃ k : Nat, k ≤ l.length ∧ i = .int .i64 k ∧ Hid (upTo shOk l k) ∧ Hid (wr.ownsRow w.heap.size 36 2 v (fstTo l T k).length (rowS (fstTo l T k))) ∧ Hid (Below w.heap.size w wr)) (fun _ i _ => l.length - (intOf i).toNat)
  case atStart => exact ⟨0, Nat.zero_le _, rfl, Lib.hid upTo_zero, HE, Lib.hid ((Below.refl _ _).alloc (Nat.le_refl _) _)⟩
  case round =>
    obtain ⟨k, hk, rfl, HU, HO, HB⟩ := hrel
    by_cases hlt : k < l.length
    · obtain ⟨b, off, rfl, hbl, hck, hck1⟩ := H.out.at_ HB.out hlt
      have hlt' : (k : Int) < (l.length : Int) := by omega
      have hk0 : (0 : Int) ≤ (k : Int) := by omega
      have CV := fun W => Lib.hid (valid_any l[k].1 l[k].2 W)
      obtain ⟨sv, hsv⟩ : ∃ sv, shOk (l[k].1, l[k].2) = sv := ⟨_, rfl⟩
      rw [hsv] at CV
      cases sv with
      | false =>
        have HBAD := Lib.hid (not_all hlt hsv)
        clear hsv
        generalize l[k] = s at hck hck1 CV
        obtain ⟨X, Y⟩ := s
        dsimp only at hck hck1 CV
        go_wp2_with fail
        refine (CV _).out.mono ?_
        rintro e w3 ⟨rfl, hb3⟩
        have HB3 := Lib.hid (HB.out.trans (hb3.mono HB.out.size))
        clear hb3 hck hck1
        go_wp2_with fail
        go_ret2
        exact ⟨by rw [joinD_bad HBAD.out]; rfl, HB3.out⟩
      | true =>
        have HUS := Lib.hid (upTo_succ HU.out hlt hsv)
        have HSAME := Lib.hid (step_same' (T := T) hlt)
        have HADD := Lib.hid (step_add' (T := T) hlt)
        have HAT := Lib.hid (fun (W : World) (hB : Below w.heap.size w W) => H.out.at_ hB hlt)
        clear hsv
        generalize l[k] = s at hck hck1 CV HSAME HADD HAT
        obtain ⟨X, Y⟩ := s
        dsimp only at hck hck1 CV
        go_wp2_with fail
        refine (CV _).out.mono ?_
        rintro e w3 ⟨rfl, hb3⟩
        have HB3 := Lib.hid (HB.out.trans (hb3.mono HB.out.size))
        have HO3 := Lib.hid (own_below HO.out hb3 (Nat.le_refl _))
        clear hb3 hck hck1
        obtain ⟨A1, c1, rfl⟩ := own_slice HO3.out
        have HF := Lib.hid (IsShs.ofOwn HO3.out)
        have hlk := (fstTo_len l T k).1
        go_wp2_with fail
        go_loopw [8, 9] (fun s i wx => ∃ j : Nat, j ≤ (fstTo l T k).length ∧ i = .int .i64 j ∧ s = .bool (((fstTo l T k).take j).any fun u => u.1 == X) ∧ Hid (Drn w3 wx)) (fun _ i _ => (fstTo l T k).length - (intOf i).toNat)
        case atStart => exact ⟨0, Nat.zero_le _, rfl, rfl, Lib.hid (Drn.refl _)⟩
        case round =>
          obtain ⟨j, hj, rfl, rfl, HD⟩ := hrel
          have hbx := drn_below HD.out
          by_cases hltj : j < (fstTo l T k).length
          · obtain ⟨b', off', e', -, hck, hck1⟩ := HAT.out _ (HB3.out.trans (hbx.mono HB3.out.size))
            cases e'
            obtain ⟨b', off', rfl, hbl', hcj, hcj1⟩ := HF.out.at_ hbx hltj
            have hltj' : (j : Int) < ((fstTo l T k).length : Int) := by omega
            have hj0 : (0 : Int) ≤ (j : Int) := by omega
            have HTS := Lib.hid (any_take_succ (fstTo l T k) (fun u => u.1 == X) j hltj)
            try dsimp only at hck hck1
            obtain ⟨s1, hs1⟩ : ∃ s, (((fstTo l T k).take j).any fun u => u.1 == X) = s := ⟨_, rfl⟩
            generalize (fstTo l T k)[j] = u at hcj hcj1 HTS
            obtain ⟨X', Y'⟩ := u
            dsimp only at hcj hcj1 HTS
            rw [hs1] at HTS ⊢
            clear hs1 hbx
            cases s1 with
            | true =>
              go_wp2_with fail
              go_quiet (fail)
              go_wp2_with fail
              go_roundw
              case rel => exact ⟨j + 1, by omega, by go_num, by rw [HTS.out]; rfl, Lib.hid (HD.out.drewN _)⟩
              case measure => simp [intOf]; omega
            | false =>
              go_wp2_with fail
              go_quiet (fail)
              go_wp2_with fail
              go_roundw
              case rel => exact ⟨j + 1, by omega, by go_num, by rw [HTS.out, Bool.false_or]; congr 1; rw [Bool.eq_iff_iff]; simp; omega, Lib.hid (HD.out.drewN _)⟩
              case measure => simp [intOf]; omega
          · have hnl : ¬ (j : Int) < ((fstTo l T k).length : Int) := by omega
            obtain rfl : j = (fstTo l T k).length := by omega
            rw [List.take_length]
            have HBx := Lib.hid (HB3.out.trans (hbx.mono HB3.out.size))
            obtain ⟨nd, rfl⟩ := HD.out
            have HOx : Hid ((w3.drewN nd).ownsRow w.heap.size 36 2 (.slice A1 (fstTo l T k).length c1) (fstTo l T k).length (rowS (fstTo l T k))) := HO3
            obtain ⟨b', off', e', -, hck, hck1⟩ := HAT.out _ HBx.out
            cases e'
            try dsimp only at hck hck1 HADD HSAME
            clear hbx HD
            generalize w3.drewN nd = wq at hck hck1 HOx HBx ⊢
            obtain ⟨s1, hs1⟩ : ∃ s, ((fstTo l T k).any fun u => u.1 == X) = s := ⟨_, rfl⟩
            rw [hs1]
            cases s1 with
            | true =>
              have HS := Lib.hid (HSAME.out (.inl hs1))
              clear hs1 hck hck1
              go_wp2_with fail
              go_roundw
              case rel => exact ⟨k + 1, by omega, by go_num, HUS, Lib.hid (by rw [HS.out]; exact HOx.out), HBx⟩
              case measure => simp [intOf]; omega
            | false =>
              by_cases hfl : (fstTo l T k).length < T
              · have hfl' : ((fstTo l T k).length : Int) < (T : Int) := by omega
                have HA := Lib.hid (HADD.out hs1 hfl)
                have MS := Lib.hid (rowS_snoc (fstTo l T k) (X, Y))
                obtain ⟨iu, hiu, hz0, hz1, hz3⟩ := info_parts Try.info_sh
                have HIU := Lib.hid (And.intro hiu (And.intro hz0 (And.intro hz1 hz3)))
                have hsq := HBx.out.size
                clear hiu hz0 hz1 hz3 hs1
                go_wp2_with (at_builtin; refine wpList_append_cells _ rfl _ _ 28 rfl w.heap.size 36 iu (.agg #[.int .u64 0, .int .u64 0]) 2 16 Try.underlying28 HIU.out.1 HIU.out.2.1 HIU.out.2.2.1 HIU.out.2.2.2 rfl (by decide) _ (fstTo l T k).length _ rfl (HOx.out.alloc _) (some ⟨wq.heap.size, 0, none⟩) 1 1 [u64v X, u64v Y] rfl rfl ?c1 ?c2 ?c3 ?c4 ?c5 ?_)
                case c1 => first | exact fun _ _ h => h | exact fun _ => ⟨_, rfl, cell_two_new _ _ _ _⟩
                case c2 => first | exact ⟨rfl, rfl⟩ | exact two_u64 _ _
                case c3 => unfold maxLen; omega
                case c4 => omega
                case c5 => first | omega | (simp; omega)
                intro v7 w7 hown7 hgrow7 _
                rw [MS.out] at hown7
                have HO7 := Lib.hid hown7
                have HB7 := Lib.hid ((HBx.out.alloc hsq _).grown hgrow7 (by simp; omega) (own_base HOx.out))
                clear hown7 hgrow7 hck hck1
                go_wp2_with fail
                go_roundw
                case rel => exact ⟨k + 1, by omega, by go_num, HUS, Lib.hid (by rw [HA.out, List.length_append]; exact HO7.out), HB7⟩
                case measure => simp [intOf]; omega
              · have hfl' : ¬ ((fstTo l T k).length : Int) < (T : Int) := by omega
                have HS := Lib.hid (HSAME.out (.inr (by omega)))
                clear hs1 hck hck1
                go_wp2_with fail
                go_roundw
                case rel => exact ⟨k + 1, by omega, by go_num, HUS, Lib.hid (by rw [HS.out]; exact HOx.out), HBx⟩
                case measure => simp [intOf]; omega
    · have hnl : ¬ (k : Int) < (l.length : Int) := by omega
      obtain rfl : k = l.length := by omega
      have hall := upTo_all HU.out
      have hql : ShQ l := fun s hs => by
        have := shOk_lt (List.all_eq_true.1 hall s hs)
        exact ⟨Nat.lt_of_le_of_lt this.2.1 (by decide), this.2.2⟩
      have HQL := Lib.hid hql
      rw [fstTo_all] at HO
      obtain ⟨A1, c1, rfl⟩ := own_slice HO.out
      have hfm : ∀ s ∈ firstD l T, s ∈ l := fun s hs => fstTo_mem (T := T) l.length s (by rw [fstTo_all]; exact hs)
      have HF := Lib.hid (IsShs.ofOwn HO.out)
      have HQF : Hid (ShQ (firstD l T)) := fun s hs => HQL.out s (hfm s hs)
      have HJ := Lib.hid (joinD_yes t1 t2 hall)
      have hfl9 : (firstD l T).length ≤ T := by have := (fstTo_len l T l.length).1; rw [fstTo_all] at this; exact this
      clear hfm hql hall
      by_cases hfl : (firstD l T).length < T
      · have hfl' : ((firstD l T).length : Int) < (T : Int) := by omega
        have HFL := Lib.hid hfl
        go_wp2_with fail
        go_ret2
        exact ⟨by rw [HJ.out, if_pos (.inl HFL.out)]; rfl, HB.out⟩
      · have hfl' : ¬ ((firstD l T).length : Int) < (T : Int) := by omega
        have HFL := Lib.hid hfl
        obtain ⟨wo, hwo⟩ : ∃ wo, wo = wr := ⟨_, rfl⟩
        subst hwo
        have C3 := fun W (hB : Below wo.heap.size wo W) => Lib.hid (refAt_any W _ _ (firstD l T) (HF.out.below hB) HQF.out 0 (by decide))
        go_wp2_with fail
        go_loopw [10] (fun i wx => ∃ j : Nat, j ≤ l.length ∧ i = .int .i64 j ∧ Hid (upTo (fun s => !neN (atD (firstD l T) s.1) s.2) l j) ∧ Hid (Drn wo wx)) (fun i _ => l.length - (intOf i).toNat)
        case atStart => exact ⟨0, Nat.zero_le _, rfl, Lib.hid upTo_zero, Lib.hid (Drn.refl _)⟩
        case round =>
          obtain ⟨j, hj, rfl, HUJ, HD⟩ := hrel
          have hbx := drn_below HD.out
          by_cases hltj : j < l.length
          · obtain ⟨b, off, rfl, hbl, hck, hck1⟩ := H.out.at_ (HB.out.trans (hbx.mono HB.out.size)) hltj
            have hltj' : (j : Int) < (l.length : Int) := by omega
            have hj0 : (0 : Int) ≤ (j : Int) := by omega
            have CA := fun W (hB : Below wo.heap.size wo W) => Lib.hid (refAt_any W _ _ (firstD l T) (HF.out.below hB) HQF.out l[j].1 (HQL.out _ (List.getElem_mem hltj)).1)
            have HYES := Lib.hid (fun hp => upTo_succ HUJ.out hltj hp)
            have HNO : Hid (neN (atD (firstD l T) l[j].1) l[j].2 = true → (l.any fun s => neN (atD (firstD l T) s.1) s.2) = true) := fun hp => List.any_eq_true.2 ⟨_, List.getElem_mem hltj, hp⟩
            have hwx := HD.out
            generalize l[j] = s at hck hck1 CA HYES HNO
            obtain ⟨X, Y⟩ := s
            dsimp only at hck hck1 CA HYES HNO
            obtain ⟨z, hz⟩ : ∃ z, atD (firstD l T) X = z := ⟨_, rfl⟩
            rw [hz] at CA HYES HNO
            have HBX := Lib.hid hbx
            clear hz hbx hwx
            go_wp2_with fail
            by_cases hne : ((z : Int) != (Y : Int)) = true
            · have HN := Lib.hid (HNO.out hne)
              go_quiet ((go_at_call 47; exact Calls.quiet_of (CA _ (below_drewN HBX.out _)).out))
              go_wp2_with fail
              go_ret2
              exact ⟨by rw [HJ.out, if_pos (.inr HN.out)]; rfl, below_drewN (HB.out.trans (HBX.out.mono HB.out.size)) _⟩
            · have hne : ((z : Int) != (Y : Int)) = false := by simpa using hne
              have HN := Lib.hid (HYES.out (by show (!((z : Int) != (Y : Int))) = true; rw [hne]; rfl))
              go_quiet ((go_at_call 47; exact Calls.quiet_of (CA _ (below_drewN HBX.out _)).out))
              go_wp2_with fail
              go_roundw
              case rel => exact ⟨j + 1, by omega, by go_num, HN, Lib.hid (HD.out.drewN _)⟩
              case measure => simp [intOf]; omega
          · have hnl : ¬ (j : Int) < (l.length : Int) := by omega
            obtain rfl : j = l.length := by omega
            have HN := Lib.hid (upTo_all HUJ.out)
            have HBX := Lib.hid hbx
            clear hbx
            go_wp2_with fail
            refine (C3 _ HBX.out).out.mono ?_
            rintro e w4 ⟨rfl, n4, rfl⟩
            go_wp2_with fail
            go_ret2
            refine ⟨?_, below_drewN (HB.out.trans (HBX.out.mono HB.out.size)) _⟩
            rw [HJ.out, if_neg]
            · rfl
            · rintro (hh | hh)
              · exact HFL.out hh
              · rw [List.any_eq_true] at hh
                obtain ⟨s, hs, hp⟩ := hh
                have := List.all_eq_true.1 HN.out s hs
                rw [hp] at this
                cases this
theorem refJoin_any (w : World) (M : Nat → Prop) (v : Value) (l : List (Nat × Nat)) (h : IsShs w M v l) (t : Int) :
    Calls Try.prog 23 #[v, .int .i64 t] w (NumE w (joinD l t)) := by
  by_cases ht : 1 ≤ t ∧ t ≤ 24
  · obtain ⟨T, rfl⟩ : ∃ T : Nat, t = (T : Int) := ⟨t.toNat, by omega⟩
    exact refJoin_go w M v l h T (by omega) (by omega)
  · rw [joinD_out ht]
    by_cases h1 : t < 1
    · have b1 : decide (t < 1) = true := by simpa using h1
      go_enter Try.func23, Try.ntmps23
      go_wp2_with fail
      go_ret2
      exact ⟨rfl, Below.refl _ _⟩
    · have b1 : decide (t < 1) = false := by simpa using h1
      have b2 : decide (24 < t) = true := by simp; omega
      go_enter Try.func23, Try.ntmps23
      go_wp2_with fail
      go_ret2
      exact ⟨rfl, Below.refl _ _⟩
end Go.Proofs.Ytpcodholllaceaa
