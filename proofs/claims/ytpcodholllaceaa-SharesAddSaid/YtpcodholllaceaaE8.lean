import Derived.Test.YtpcodholllaceaaE7
namespace Go.Proofs.Ytpcodholllaceaa
open Go.RowKit Go.Shelf

/-- shares and a code -/
def ShsE (w : World) (r : List (Nat × Nat) × Int) (e : Ending) (w' : World) : Prop := ∃ v, e = .returned (.tuple #[v, .int .i64 r.2]) ∧ IsShs w' (fun b => w.heap.size ≤ b) v r.1 ∧ Below w.heap.size w w'
/-- the first k shares of a polynomial -/
def shsTo (cs : List Nat) (k : Nat) : List (Nat × Nat) := (List.range k).map fun i => (i + 1, hor cs (i + 1))
theorem shsTo_len (cs : List Nat) (k : Nat) : (shsTo cs k).length = k := by simp [shsTo]
theorem shsTo_succ (cs : List Nat) (k : Nat) : rowS (shsTo cs k) ++ [u64v (k + 1), u64v (hor cs (k + 1))] = rowS (shsTo cs (k + 1)) := by
  rw [rowS_snoc (shsTo cs k) (k + 1, hor cs (k + 1))]
  unfold shsTo
  rw [List.range_succ, List.map_append]
  rfl
theorem splitD_yes {cs : List Nat} {n : Nat} (h : allD coefOk cs = true) (h1 : 1 ≤ n) (h2 : n ≤ 192) : splitD cs (n : Int) = (shsTo cs n, 0) := by
  unfold splitD; rw [if_pos ⟨h, by omega, by omega⟩]; rfl
theorem splitD_no {cs : List Nat} {n : Int} (h : ¬ (allD coefOk cs = true ∧ 1 ≤ n ∧ n ≤ 192)) : splitD cs n = ([], 230) := by
  unfold splitD; rw [if_neg h]
theorem IsShs.row {w : World} {base e k : Nat} {v : Value} {cs : List Nat} (h : w.ownsRow base e 2 v k (rowS (shsTo cs k))) : IsShs w (fun b => base ≤ b) v (shsTo cs k) :=
  IsShs.ofOwn (by rw [shsTo_len]; exact h)
set_option maxHeartbeats 1000000 in
theorem refSplit_any (w : World) (M : Nat → Prop) (v : Value) (xs : List Nat) (h : IsU64 w M v xs) (hl : xs.length ≤ 140737488355328) (n : Int) :
    Calls Try.prog 15 #[v, .int .i64 n] w (ShsE w (splitD xs n)) := by
  have CA := Lib.hid (refCoef_any w M v xs h hl)
  have H := Lib.hid h
  obtain ⟨A, c, rfl, h1, h2, -⟩ := h
  by_cases ha : allD coefOk xs = true
  · by_cases g1 : n < 1
    · rw [splitD_no (by omega)]
      rw [ha] at CA
      clear ha
      go_enter Try.func15, Try.ntmps15
      go_wp2_with fail
      refine CA.out.mono ?_
      rintro e w1 ⟨rfl, rfl⟩
      go_wp2_with fail
      go_ret2
      exact ⟨_, rfl, IsSl.nil, Below.refl _ _⟩
    · by_cases g2 : 192 < n
      · rw [splitD_no (by omega)]
        rw [ha] at CA
        clear ha
        go_enter Try.func15, Try.ntmps15
        go_wp2_with fail
        refine CA.out.mono ?_
        rintro e w1 ⟨rfl, rfl⟩
        go_wp2_with fail
        go_ret2
        exact ⟨_, rfl, IsSl.nil, Below.refl _ _⟩
      · obtain ⟨n', rfl⟩ : ∃ n' : Nat, n = (n' : Int) := ⟨n.toNat, by omega⟩
        rw [splitD_yes ha (by omega) (by omega)]
        have HCO : Hid (∀ c ∈ xs, c < 1152921504606845789) := fun c hc => of_decide_eq_true ((List.all_eq_true.1 (by unfold allD at ha; exact (Bool.and_eq_true _ _ ▸ ha).2)) c hc)
        rw [ha] at CA
        clear ha
        obtain ⟨iu, hiu, hz0, hz1, hz2⟩ := info_parts Try.info_sh
        have HIU := Lib.hid (And.intro hiu (And.intro hz0 (And.intro hz1 hz2)))
        clear hiu hz0 hz1 hz2
        go_enter Try.func15, Try.ntmps15
        go_wp2_with fail
        refine CA.out.mono ?_
        rintro e w1 ⟨rfl, rfl⟩
        go_wp2_with fail
        have hE : (w.alloc (.cells #[] 36)).heap[w.heap.size]? = some (.cells #[] 36 (0, 0)) := by rw [heap_alloc_if, if_pos rfl]
        go_loopw [6, 7] (fun v i wr => ∃ k K : Nat, Hid (K = k + 1) ∧ k < K ∧ K ≤ n' + 1 ∧ i = .int .i64 K ∧ Hid (wr.ownsRow w.heap.size 36 2 v k (rowS (shsTo xs k))) ∧ Hid (Below w.heap.size w wr)) (fun _ i _ => n' + 1 - (intOf i).toNat)
        case atStart => exact ⟨0, 1, rfl, by omega, by omega, rfl, Lib.hid (own_empty hE (Nat.le_refl _)), Lib.hid ((Below.refl _ _).alloc (Nat.le_refl _) _)⟩
        case round =>
          obtain ⟨k, K, HK, hkK, hK, rfl, HO, HB⟩ := hrel
          by_cases hlt : K ≤ n'
          · have hlt' : (K : Int) ≤ (n' : Int) := by omega
            have hw : IntKind.u64.wrap (K : Int) = (K : Int) := w64n K (by omega)
            have CV := fun W (hB : Below w.heap.size w W) => Lib.hid (value_any W M _ xs (H.out.below hB) hl HCO.out K (by omega))
            have MS := Lib.hid (show rowS (shsTo xs k) ++ [u64v K, u64v (hor xs K)] = rowS (shsTo xs (k + 1)) by rw [HK.out]; exact shsTo_succ xs k)
            obtain ⟨z, hz⟩ : ∃ z, hor xs K = z := ⟨_, rfl⟩
            rw [hz] at CV MS
            clear hz hE
            go_wp2_with fail
            refine (CV _ HB.out).out.mono ?_
            rintro e w2 ⟨rfl, n, rfl⟩
            have HOq : Hid ((wr.drewN n).ownsRow w.heap.size 36 2 u6 k (rowS (shsTo xs k))) := HO
            have HBq := Lib.hid (below_drewN HB.out n)
            generalize wr.drewN n = wq at HOq HBq ⊢
            have hsq := HBq.out.size
            clear CV
            go_wp2_with (at_builtin; refine wpList_append_cells _ rfl _ _ 28 rfl w.heap.size 36 iu (.agg #[.int .u64 0, .int .u64 0]) 2 16 Try.underlying28 HIU.out.1 HIU.out.2.1 HIU.out.2.2.1 HIU.out.2.2.2 rfl (by decide) _ k _ rfl (HOq.out.alloc _) (some ⟨wq.heap.size, 0, none⟩) 1 1 [u64v K, u64v z] rfl rfl ?c1 ?c2 ?c3 ?c4 ?c5 ?_)
            case c1 => exact fun _ => ⟨_, rfl, cell_two_new _ _ _ _⟩
            case c2 => exact two_u64 _ _
            case c3 => unfold maxLen; omega
            case c4 => omega
            case c5 => simp; omega
            intro v7 w7 hown7 hgrow7 _
            rw [MS.out] at hown7
            have HO7 := Lib.hid hown7
            have HB7 := Lib.hid ((HBq.out.alloc hsq _).grown hgrow7 (by simp; omega) (own_base HOq.out))
            clear hown7 hgrow7
            go_wp2_with fail
            go_roundw
            case rel => exact ⟨k + 1, K + 1, congrArg (· + 1) HK.out, by omega, by omega, by go_num, HO7, HB7⟩
            case measure => simp [intOf]; omega
          · have hnl : ¬ (K : Int) ≤ (n' : Int) := by omega
            go_wp2_with fail
            go_ret2
            have hkk : k = n' := by have := HK.out; omega
            subst hkk
            exact ⟨_, rfl, IsShs.row HO.out, HB.out⟩
  · rw [splitD_no (fun hh => ha hh.1)]
    rw [show allD coefOk xs = false by simpa using ha] at CA
    clear ha
    go_enter Try.func15, Try.ntmps15
    go_wp2_with fail
    refine CA.out.mono ?_
    rintro e w1 ⟨rfl, rfl⟩
    go_wp2_with fail
    go_ret2
    exact ⟨_, rfl, IsSl.nil, Below.refl _ _⟩
/-- two slices of shares that read alike are the same -/
theorem sameShares_yes (w : World) (M M' : Nat → Prop) (v v' : Value) (xs : List (Nat × Nat)) (h : IsShs w M v xs) (h' : IsShs w M' v' xs) :
    Calls Try.prog 19 #[v, v'] w fun e w' => e = .returned (.bool true) ∧ ∃ n, w' = w.drewN n := by
  have H := Lib.hid h
  have H' := Lib.hid h'
  obtain ⟨A, c, rfl, h1, h2, -⟩ := h
  obtain ⟨A', c', rfl, h1', h2', -⟩ := h'
  have hne : ((xs.length : Int) != (xs.length : Int)) = false := by simp
  go_enter Try.func19, Try.ntmps19
  go_wp2_with fail
  go_loopw [5] (fun i wr => ∃ k : Nat, k ≤ xs.length ∧ i = .int .i64 k ∧ Hid (Drn w wr)) (fun i _ => xs.length - (intOf i).toNat)
  case atStart => exact ⟨0, Nat.zero_le _, rfl, Lib.hid (Drn.refl _)⟩
  case round =>
    obtain ⟨k, hk, rfl, HD⟩ := hrel
    by_cases hlt : k < xs.length
    · have hb := drn_below HD.out
      obtain ⟨b, off, rfl, hbl, hck, hck1⟩ := H.out.at_ hb hlt
      obtain ⟨b', off', rfl, hbl', hck', hck1'⟩ := H'.out.at_ hb hlt
      have hlt' : (k : Int) < (xs.length : Int) := by omega
      have hk0 : (0 : Int) ≤ (k : Int) := by omega
      generalize xs[k].1 = x at *
      generalize xs[k].2 = y at *
      have he : (((x : Nat) : Int) != ((x : Nat) : Int)) = false := by simp
      have he2 : (((y : Nat) : Int) != ((y : Nat) : Int)) = false := by simp
      clear hb
      go_wp2_with fail
      go_quiet (fail)
      go_wp2_with fail
      go_roundw
      case rel => exact ⟨k + 1, by omega, by go_num, Lib.hid (HD.out.drewN _)⟩
      case measure => simp [intOf]; omega
    · have hnl : ¬ (k : Int) < (xs.length : Int) := by omega
      go_wp2_with fail
      go_ret
      exact ⟨rfl, HD.out⟩
end Go.Proofs.Ytpcodholllaceaa
