import Derived.Test.YtpcodholllaceaaE2
namespace Go.Proofs.Ytpcodholllaceaa
open Go.RowKit Go.Shelf

theorem Try.info_u64 : (Try.prog.info? 22).map (fun i => (i.zero, i.size, i.bytes)) = some (some (.int .u64 0), 1, 8) := by kernel_rfl
theorem cell_one_new (w : World) (a : Value) (t : TypeId) : ∀ j u, [a][j]? = some u → (w.alloc (.cells #[a] t)).cell? ((⟨w.heap.size, 0, none⟩ : Addr).add j) = some u := by
  intro j u hj
  have hl : (w.alloc (.cells #[a] t)).heap[w.heap.size]? = some (.cells #[a] t (0, 0)) := by rw [heap_alloc_if, if_pos rfl]
  rw [addr_add, Nat.zero_add]
  refine cell_of hl ?_
  have : j = 0 := by have := (List.getElem?_eq_some_iff.1 hj).1; simp at this; omega
  subst this
  simpa using hj
theorem own_base {w : World} {base e sz n : Nat} {v : Value} {xs : List Value} (h : w.ownsRow base e sz v n xs) : ∀ g, v.ownBlock = some g → base ≤ g := by
  intro g hg
  rcases h.2 with ⟨rfl, _⟩ | ⟨b, cap, cur, rfl, hb, _⟩
  · simp [Value.ownBlock] at hg
  · simp [Value.ownBlock] at hg; omega
theorem own_nil (w : World) (base e sz : Nat) : w.ownsRow base e sz (.slice none 0 0) 0 [] := ⟨by simp, .inl ⟨rfl, rfl⟩⟩
def u64v (x : Nat) : Value := .int .u64 (x : Int)
theorem one_u64 (x : Nat) : ∀ u ∈ [u64v x], u.oneCell' = true := by intro u hu; simp at hu; subst hu; rfl
/-- an own row of numbers reads as a slice of numbers -/
theorem IsU64.ofOwn {w : World} {base e : Nat} {v : Value} {xs : List Nat} (h : w.ownsRow base e 1 v xs.length (xs.map u64v)) : IsU64 w (fun b => base ≤ b) v xs :=
  (IsSl.ofOwn h (M := fun b => base ≤ b) fun _ hb => hb).congr fun i j hi hj => by
    obtain rfl : j = 0 := by omega
    rw [Nat.mul_one, Nat.add_zero, List.getD_eq_getElem?_getD, List.getElem?_map, List.getElem?_eq_getElem hi, List.getD_eq_getElem?_getD, List.getElem?_eq_getElem hi]
    rfl
theorem IsU64.at_ {w wr : World} {M : Nat → Prop} {A : Option Addr} {c k : Nat} {xs : List Nat} (h : IsU64 w M (.slice A xs.length c) xs) (hb : Below w.heap.size w wr) (hk : k < xs.length) :
    ∃ b off, A = some ⟨b, off, none⟩ ∧ b < w.heap.size ∧ wr.cell? ⟨b, off + k, none⟩ = some (.int .u64 ((xs[k] : Nat) : Int)) := by
  obtain ⟨A', c', e, _, _, h3⟩ := h
  cases e
  obtain ⟨b, off, e, _, hl, hc⟩ := h3.at1 hb hk
  refine ⟨b, off, e, hl, ?_⟩
  rw [hc, List.getD_eq_getElem?_getD, List.getElem?_eq_getElem hk]
  rfl
/-- numbers and a code -/
def U64E (w : World) (r : List Nat × Int) (e : Ending) (w' : World) : Prop := ∃ v, e = .returned (.tuple #[v, .int .i64 r.2]) ∧ IsU64 w' (fun b => w.heap.size ≤ b) v r.1 ∧ Below w.heap.size w w'
def rowU (f : Nat → Nat) (xs : List Nat) (k : Nat) : List Value := ((xs.take k).map f).map u64v
theorem map_snoc (xs : List Nat) (f : Nat → Nat) (k : Nat) (h : k < xs.length) : rowU f xs k ++ [u64v (f xs[k])] = rowU f xs (k + 1) := by
  unfold rowU
  rw [List.take_succ_eq_append_getElem h, List.map_append, List.map_append]; rfl
set_option maxHeartbeats 1000000 in
theorem powers_any (w : World) (M : Nat → Prop) (v : Value) (xs : List Nat) (h : IsU64 w M v xs) (hx : U64s xs) :
    Calls Try.prog 12 #[v] w (U64E w (powersD xs)) := by
  have CA := Lib.hid (all_any asks_coef w M v xs h)
  have H := Lib.hid h
  obtain ⟨A, c, rfl, h1, h2, -⟩ := h
  by_cases ha : allD coefOk xs = true
  · rw [ha] at CA
    have hp : powersD xs = (xs.map (pw 4), 0) := by unfold powersD; rw [if_pos ha]
    rw [hp]
    have hlen : xs.length ≤ 24 := by
      unfold allD lenOk at ha
      simp only [Bool.and_eq_true, decide_eq_true_eq] at ha
      exact ha.1.2
    have HX := Lib.hid hx
    clear hp ha hx
    obtain ⟨iu, hiu, hz0, hz1, hz2⟩ := info_parts Try.info_u64
    have HIU := Lib.hid (And.intro hiu (And.intro hz0 (And.intro hz1 hz2)))
    clear hiu hz0 hz1 hz2
    go_enter Try.func12, Try.ntmps12
    go_wp2_with fail
    refine CA.out.mono ?_
    rintro e w1 ⟨rfl, hb1⟩
    have HB1 := Lib.hid hb1
    clear hb1
    go_wp2_with fail
    go_loopw [2, 11] (fun v i wr => ∃ k : Nat, k ≤ xs.length ∧ i = .int .i64 k ∧ Hid (wr.ownsRow w.heap.size 22 1 v k (rowU (pw 4) xs k)) ∧ Hid (Below w.heap.size w wr)) (fun _ i _ => xs.length - (intOf i).toNat)
    case atStart => exact ⟨0, Nat.zero_le _, rfl, Lib.hid (own_nil _ _ _ _), HB1⟩
    case round =>
      obtain ⟨k, hk, rfl, HO, HB⟩ := hrel
      by_cases hlt : k < xs.length
      · obtain ⟨b, off, rfl, hbl, hck⟩ := H.out.at_ HB.out hlt
        have hlt' : (k : Int) < (xs.length : Int) := by omega
        have CP := Lib.hid (Pow_any 4 xs[k] (HX.out _ (List.getElem_mem hlt)) wr)
        have MS := Lib.hid (map_snoc xs (pw 4) k hlt)
        obtain ⟨z, hz⟩ : ∃ z, pw 4 xs[k] = z := ⟨_, rfl⟩
        rw [hz] at CP MS
        clear hz
        go_wp2_with fail
        refine CP.out.mono ?_
        rintro e w2 ⟨rfl, n, rfl⟩
        have HOq : Hid ((wr.drewN n).ownsRow w.heap.size 22 1 u2 k (rowU (pw 4) xs k)) := HO
        have HBq := Lib.hid (below_drewN HB.out n)
        generalize wr.drewN n = wq at HOq HBq ⊢
        have hsq := HBq.out.size
        clear hck
        go_wp2_with (at_builtin; refine wpList_append_cells _ rfl _ _ 23 rfl w.heap.size 22 iu (.int .u64 0) 1 8 Try.underlying23 HIU.out.1 HIU.out.2.1 HIU.out.2.2.1 HIU.out.2.2.2 rfl (by decide) _ k _ rfl (HOq.out.alloc _) (some ⟨wq.heap.size, 0, none⟩) 1 1 [u64v z] rfl rfl ?c1 ?c2 ?c3 ?c4 ?c5 ?_)
        case c1 => exact fun _ => ⟨_, rfl, cell_one_new _ _ _⟩
        case c2 => exact one_u64 _
        case c3 => unfold maxLen; omega
        case c4 => omega
        case c5 => simp; omega
        intro v7 w7 hown7 hgrow7 _
        rw [MS.out] at hown7
        have HO7 := Lib.hid hown7
        have HB7 := Lib.hid ((HBq.out.alloc hsq _).grown hgrow7 (by simp; omega) (own_base HOq.out))
        clear hown7 hgrow7
        go_wp2_with fail
        go_roundw
        case rel => exact ⟨k + 1, by omega, by go_num, HO7, HB7⟩
        case measure => simp [intOf]; omega
      · have hnl : ¬ (k : Int) < (xs.length : Int) := by omega
        go_wp2_with fail
        go_ret2
        have hkk : k = xs.length := by omega
        subst hkk
        have ho := HO.out
        unfold rowU at ho
        rw [List.take_length] at ho
        exact ⟨_, rfl, IsU64.ofOwn (by rw [List.length_map]; exact ho), HB.out⟩
  · have hp : powersD xs = ([], 230) := by unfold powersD; rw [if_neg ha]
    rw [hp]
    rw [show allD coefOk xs = false by simpa using ha] at CA
    clear hp ha hx
    go_enter Try.func12, Try.ntmps12
    go_wp2_with fail
    refine CA.out.mono ?_
    rintro e w1 ⟨rfl, hb1⟩
    go_wp2_with fail
    go_ret2
    exact ⟨_, rfl, IsSl.nil, hb1⟩
end Go.Proofs.Ytpcodholllaceaa
