import Derived.Test.YtgaanndidcdbpaaZK
import Derived.BigQuiet
import Derived.Test.YtgaanndidcdbpaaZJ
import Derived.Test.YtgaanndidcdbpaaZC
/- SameInts, few, ref.Few. -/
namespace Go.Proofs.Ytgaanndidcdbpaa
open Go.RowKit Go.Shelf

def RetT (z : Bool) (w : World) (e : Ending) (w' : World) : Prop := e = .returned (.bool z) ∧ Below w.heap.size w w'
theorem nthI_lt {l : List Int} {k : Nat} (h : k < l.length) : nthI l k = l[k] := nthI_get h
theorem eq_nth {a b : List Int} (hl : a.length = b.length) (h : ∀ i, i < a.length → nthI a i = nthI b i) : a = b :=
  List.ext_getElem hl fun i h1 h2 => by rw [← nthI_get h1, ← nthI_get h2]; exact h i h1
set_option maxHeartbeats 1000000 in
theorem sameInts_any (w : World) (M M' : Nat → Prop) (v u : Value) (a b : List Int) (ha : IsInts w M v a) (hb : IsInts w M' u b) (hl : a.length ≤ 100000) : Calls Try.prog 28 #[v, u] w (RetT (decide (a = b)) w) := by
  have HA := Lib.hid ha
  have HB := Lib.hid hb
  obtain ⟨aA, ac, rfl, -⟩ := ha
  obtain ⟨bA, bc, rfl, -⟩ := hb
  by_cases he : a.length = b.length
  · have he1 : (a.length : Int) = (b.length : Int) := by omega
    have HL := Lib.hid he
    rw [← he]
    clear he he1
    go_enter Try.func28, Try.ntmps28
    go_wp2_with fail
    go_loopw [5] (fun s5 wr => ∃ k : Nat, k ≤ a.length ∧ s5 = .int .i64 (k : Int) ∧ Hid (∀ i, i < k → nthI a i = nthI b i) ∧ Hid (Below w.heap.size w wr)) (fun s5 _ => a.length - (intOf s5).toNat)
    case atStart => exact ⟨0, Nat.zero_le _, rfl, Lib.hid (fun _ h => absurd h (by omega)), Lib.hid (Below.refl _ _)⟩
    case round =>
      obtain ⟨k, hk, rfl, HP, HW⟩ := hrel
      by_cases hlt : k < a.length
      · have hk1 : (k : Int) < (a.length : Int) := by omega
        have hk0 : (0 : Int) ≤ (k : Int) := by omega
        obtain ⟨b1, o1, rfl, hb1, hc1⟩ := HA.out.at_ HW.out hlt
        obtain ⟨b2, o2, rfl, hb2, hc2⟩ := HB.out.at_ HW.out (by rw [← HL.out]; exact hlt)
        obtain ⟨x, hx⟩ : ∃ z, z = nthI a k := ⟨_, rfl⟩
        obtain ⟨y, hy⟩ : ∃ z, z = nthI b k := ⟨_, rfl⟩
        rw [← hx] at hc1
        rw [← hy] at hc2
        have HX := Lib.hid (And.intro hx hy)
        clear hx hy
        go_upto_region 6 with fail
        go_quiet (fail)
        by_cases hxy : x = y
        · have b0 : (x != y) = false := by simp [hxy]
          have HN : Hid (∀ i, i < k + 1 → nthI a i = nthI b i) := Lib.hid (fun i hi => by
            by_cases h : i < k
            · exact HP.out i h
            · obtain rfl : i = k := by omega
              rw [← HX.out.1, ← HX.out.2]; exact hxy)
          clear hxy
          go_wp2_with fail
          go_roundw
          case rel => exact ⟨k + 1, by omega, by go_num, HN, Lib.hid (below_drewN HW.out _)⟩
          case measure => simp [intOf]; omega
        · have b0 : (x != y) = true := by simp [hxy]
          have HN : Hid (decide (a = b) = false) := Lib.hid (by
            rw [decide_eq_false_iff_not]
            intro e
            apply hxy
            rw [HX.out.1, HX.out.2, e])
          clear hxy
          go_wp2_with fail
          go_ret
          rw [HN.out]
          exact ⟨rfl, below_drewN HW.out _⟩
      · obtain rfl : k = a.length := by omega
        have hk1 : ¬ (a.length : Int) < (a.length : Int) := by omega
        have HN : Hid (decide (a = b) = true) := Lib.hid (by rw [decide_eq_true_eq]; exact eq_nth HL.out HP.out)
        go_wp2_with fail
        go_ret
        rw [HN.out]
        exact ⟨rfl, HW.out⟩
  · have he1 : ((a.length : Int) != (b.length : Int)) = true := by simp; omega
    have HN : Hid (decide (a = b) = false) := Lib.hid (by rw [decide_eq_false_iff_not]; intro e; exact he (by rw [e]))
    clear he
    go_enter Try.func28, Try.ntmps28
    go_wp2_with fail
    go_ret
    rw [HN.out]
    exact ⟨rfl, Below.refl _ _⟩
def polN (l : List (List Nat)) (i : Nat) : List Nat := l.getD i []
def IsPol (w : World) (M : Nat → Prop) (v : Value) (l : List (List Nat)) : Prop := ∃ vs : Nat → Value, IsSl w M 1 v l.length (fun i _ => vs i) ∧ ∀ i, i < l.length → IsU64 w M (vs i) (polN l i)
theorem IsPol.below {w w' : World} {M : Nat → Prop} {v : Value} {l : List (List Nat)} (h : IsPol w M v l) (hb : Below w.heap.size w w') : IsPol w' M v l := by
  obtain ⟨vs, h1, h2⟩ := h; exact ⟨vs, IsSl.below h1 hb, fun i hi => IsSl.below (h2 i hi) hb⟩
theorem IsPol.len {w : World} {M : Nat → Prop} {v : Value} {l : List (List Nat)} (h : IsPol w M v l) : ∃ A c, v = .slice A l.length c ∧ l.length ≤ c ∧ c ≤ 9223372036854775807 := by
  obtain ⟨vs, ⟨A, c, e, h1, h2, -⟩, -⟩ := h; exact ⟨A, c, e, h1, h2⟩
theorem IsPol.at_ {w wr : World} {M : Nat → Prop} {A : Option Addr} {n c i : Nat} {l : List (List Nat)} (h : IsPol w M (.slice A n c) l) (hb : Below w.heap.size w wr) (hi : i < l.length) :
    ∃ b off vA vc, A = some ⟨b, off, none⟩ ∧ b < w.heap.size ∧ wr.cell? ⟨b, off + i, none⟩ = some (.slice vA (polN l i).length vc) ∧ IsU64 wr M (.slice vA (polN l i).length vc) (polN l i) := by
  obtain ⟨vs, ⟨A', c', e, h1, h2, h3⟩, h4⟩ := h
  cases e
  obtain ⟨b, off, rfl, hM, hc⟩ := h3 (by omega)
  have hx := hc i 0 hi (by omega)
  have hbl : b < w.heap.size := lt_of_cell hx
  have hu := IsSl.below (h4 i hi) hb
  obtain ⟨vA, vc, ev, -⟩ := id hu
  refine ⟨b, off, vA, vc, rfl, hbl, ?_, ?_⟩
  · rw [← ev]
    have := (hb.cell (p := ⟨b, off + i * 1 + 0, none⟩) hbl).trans hx
    simpa using this
  · rw [← ev]; exact hu
/-- the sum of the lengths, as the machine sums up -/
def lenW (l : List (List Nat)) : Nat → Int
  | 0 => 0
  | k + 1 => wrap64 (lenW l k + ((polN l k).length : Int))
def fewD (cl : List Int) (ps : List (List Nat)) (n : Nat) : Bool := decide ((cl.length : Int) ≤ 4) && (decide ((ps.length : Int) ≤ 4) && (decide (lenW ps ps.length ≤ 12) && decide ((n : Int) ≤ 14)))
set_option maxHeartbeats 1000000 in
theorem few_any (w : World) (M M' : Nat → Prop) (v u : Value) (cl : List Int) (ps : List (List Nat)) (ha : IsInts w M v cl) (hp : IsPol w M' u ps) (sA : Option Addr) (n sc : Nat) : Calls Try.prog 10 #[v, u, .slice sA n sc] w (RetT (fewD cl ps n) w) := by
  have HP := Lib.hid hp
  obtain ⟨aA, ac, rfl, -⟩ := ha
  obtain ⟨bA, bc, rfl, hb1, hb2⟩ := hp.len
  have hpl : ps.length ≤ 9223372036854775807 := by omega
  clear hp hb1 hb2
  go_enter Try.func10, Try.ntmps10
  go_wp2_with fail
  go_loopw [7, 12] (fun s7 s12 wr => ∃ k : Nat, k ≤ ps.length ∧ s12 = .int .i64 (k : Int) ∧ s7 = .int .i64 (lenW ps k) ∧ Hid (Below w.heap.size w wr)) (fun _ s12 _ => ps.length - (intOf s12).toNat)
  case atStart => exact ⟨0, Nat.zero_le _, rfl, rfl, Lib.hid (Below.refl _ _)⟩
  case round =>
    obtain ⟨k, hk, rfl, rfl, HW⟩ := hrel
    by_cases hlt : k < ps.length
    · have hk1 : (k : Int) < (ps.length : Int) := by omega
      have hk0 : (0 : Int) ≤ (k : Int) := by omega
      obtain ⟨b1, o1, vA, vc, rfl, hb1, hc1, -⟩ := HP.out.at_ HW.out hlt
      have HS : Hid (lenW ps (k + 1) = wrap64 (lenW ps k + ((polN ps k).length : Int))) := Lib.hid rfl
      go_wp2_with fail
      go_roundw
      case rel => exact ⟨k + 1, by omega, by go_num, by rw [HS.out], HW⟩
      case measure => simp [intOf]; omega
    · obtain rfl : k = ps.length := by omega
      have hk1 : ¬ (ps.length : Int) < (ps.length : Int) := by omega
      have HF : Hid (fewD cl ps n = (decide ((cl.length : Int) ≤ 4) && (decide ((ps.length : Int) ≤ 4) && (decide (lenW ps ps.length ≤ 12) && decide ((n : Int) ≤ 14))))) := Lib.hid rfl
      obtain ⟨s, hs⟩ : ∃ z, z = lenW ps ps.length := ⟨_, rfl⟩
      rw [← hs] at HF ⊢
      clear hs
      obtain ⟨p1, h1⟩ : ∃ p, p = decide ((cl.length : Int) ≤ 4) := ⟨_, rfl⟩
      obtain ⟨p2, h2⟩ : ∃ p, p = decide ((ps.length : Int) ≤ 4) := ⟨_, rfl⟩
      obtain ⟨p3, h3⟩ : ∃ p, p = decide (s ≤ 12) := ⟨_, rfl⟩
      obtain ⟨p4, h4⟩ : ∃ p, p = decide ((n : Int) ≤ 14) := ⟨_, rfl⟩
      have HR : Hid (fewD cl ps n = (p1 && (p2 && (p3 && p4)))) := Lib.hid (by rw [HF.out, h1, h2, h3, h4])
      replace h1 := h1.symm
      replace h2 := h2.symm
      replace h3 := h3.symm
      replace h4 := h4.symm
      clear HF
      cases p1 <;> cases p2 <;> cases p3 <;> cases p4 <;> (go_wp2_with fail; go_ret; rw [HR.out]; exact ⟨rfl, HW.out⟩)
/-- the sum of the lengths of the commitments' checks, as the machine sums up -/
def chkW (l : List ComD) : Nat → Int
  | 0 => 0
  | k + 1 => wrap64 (chkW l k + ((comN l k).checks.length : Int))
def FewD (b : BeaD) : Bool := decide ((b.clubs.length : Int) ≤ 6) && (decide ((b.coms.length : Int) ≤ 7) && (decide (chkW b.coms b.coms.length ≤ 30) && (decide ((b.revs.length : Int) ≤ 7) && decide ((b.opns.length : Int) ≤ 20))))
set_option maxHeartbeats 1000000 in
theorem Few_any (w : World) (M : Nat → Prop) (v : Value) (b : BeaD) (h : IsBea w M v b) : Calls Try.prog 18 #[v] w (RetT (FewD b) w) := by
  obtain ⟨cA, cc, kA, kc, rA, rc, oA, oc, rfl, i1, i2, i3, i4⟩ := h.parts
  have HI2 := Lib.hid i2
  have HF : Hid (FewD b = (decide ((b.clubs.length : Int) ≤ 6) && (decide ((b.coms.length : Int) ≤ 7) && (decide (chkW b.coms b.coms.length ≤ 30) && (decide ((b.revs.length : Int) ≤ 7) && decide ((b.opns.length : Int) ≤ 20)))))) := Lib.hid rfl
  have hcm : b.coms.length ≤ 9223372036854775807 := by obtain ⟨A', c', e, h1, h2⟩ := i2.len; omega
  clear h i1 i2 i3 i4
  obtain ⟨W1, hW1⟩ : ∃ W, W = w.alloc (.cells #[.slice cA b.clubs.length cc, .int .i64 b.thr, .int .u64 (b.rng : Int), .slice kA b.coms.length kc, .slice rA b.revs.length rc, .slice oA b.opns.length oc] 32) := ⟨_, rfl⟩
  have k1 : W1.heap[w.heap.size]? = some (.cells #[.slice cA b.clubs.length cc, .int .i64 b.thr, .int .u64 (b.rng : Int), .slice kA b.coms.length kc, .slice rA b.revs.length rc, .slice oA b.opns.length oc] 32 (0, 0)) := by rw [hW1]; exact heap_alloc_new _ _
  have hb1 : Below w.heap.size w W1 := by rw [hW1]; exact (Below.refl _ _).alloc (Nat.le_refl _) _
  have HK := Lib.hid k1
  have HB1 := Lib.hid hb1
  have hl1 := lt_heap k1
  have HC1 : Hid (IsComs W1 M (.slice kA b.coms.length kc) b.coms) := Lib.hid (HI2.out.below hb1)
  clear k1 hb1
  go_enter Try.func18, Try.ntmps18
  go_upto_region 1 with fail
  rw [← hW1]
  clear hW1
  go_wp2_with fail
  go_loopw [3, 4] (fun s3 s4 wr => ∃ k : Nat, k ≤ b.coms.length ∧ s4 = .int .i64 (k : Int) ∧ s3 = .int .i64 (chkW b.coms k) ∧ Hid (Below W1.heap.size W1 wr)) (fun _ s4 _ => b.coms.length - (intOf s4).toNat)
  case atStart => exact ⟨0, Nat.zero_le _, rfl, rfl, Lib.hid (Below.refl _ _)⟩
  case round =>
    obtain ⟨k, hk, rfl, rfl, HW⟩ := hrel
    have kr := (HW.out.block _ hl1).trans HK.out
    have c0 := cell_of (j := 0) kr rfl
    have c3 := cell_of (j := 3) kr rfl
    have c4 := cell_of (j := 4) kr rfl
    have c5 := cell_of (j := 5) kr rfl
    clear kr
    by_cases hlt : k < b.coms.length
    · have hk1 : (k : Int) < (b.coms.length : Int) := by omega
      have hk0 : (0 : Int) ≤ (k : Int) := by omega
      obtain ⟨g1, o1, vA, vc, rfl, hg1, hc0, hc1, -⟩ := HC1.out.at_ HW.out hlt
      have HS : Hid (chkW b.coms (k + 1) = wrap64 (chkW b.coms k + ((comN b.coms k).checks.length : Int))) := Lib.hid rfl
      go_wp2_with fail
      go_roundw
      case rel => exact ⟨k + 1, by omega, by go_num, by rw [HS.out], HW⟩
      case measure => simp [intOf]; omega
    · obtain rfl : k = b.coms.length := by omega
      have hk1 : ¬ (b.coms.length : Int) < (b.coms.length : Int) := by omega
      obtain ⟨s, hs⟩ : ∃ z, z = chkW b.coms b.coms.length := ⟨_, rfl⟩
      rw [← hs] at HF ⊢
      clear hs
      obtain ⟨p1, h1⟩ : ∃ p, p = decide ((b.clubs.length : Int) ≤ 6) := ⟨_, rfl⟩
      obtain ⟨p2, h2⟩ : ∃ p, p = decide ((b.coms.length : Int) ≤ 7) := ⟨_, rfl⟩
      obtain ⟨p3, h3⟩ : ∃ p, p = decide (s ≤ 30) := ⟨_, rfl⟩
      obtain ⟨p4, h4⟩ : ∃ p, p = decide ((b.revs.length : Int) ≤ 7) := ⟨_, rfl⟩
      obtain ⟨p5, h5⟩ : ∃ p, p = decide ((b.opns.length : Int) ≤ 20) := ⟨_, rfl⟩
      have HR : Hid (FewD b = (p1 && (p2 && (p3 && (p4 && p5))))) := Lib.hid (by rw [HF.out, h1, h2, h3, h4, h5])
      replace h1 := h1.symm
      replace h2 := h2.symm
      replace h3 := h3.symm
      replace h4 := h4.symm
      replace h5 := h5.symm
      clear HF
      cases p1 <;> cases p2 <;> cases p3 <;> cases p4 <;> cases p5 <;> (go_wp2_with fail; go_ret; rw [HR.out]; exact ⟨rfl, HB1.out.trans (HW.out.mono HB1.out.size)⟩)
end Go.Proofs.Ytgaanndidcdbpaa
/- start: a beacon to which all have committed. -/
namespace Go.Proofs.Ytgaanndidcdbpaa
open Go.RowKit Go.Shelf

def polC (cl : List Int) (ps : List (List Nat)) (i : Nat) : ComD := ⟨nthI cl i, (powersD (polN ps i)).1⟩
/-- the beacon after the first k commitments -/
def stB (cl : List Int) (t : Int) (of : Nat) (ps : List (List Nat)) (k : Nat) : BeaD := ⟨cl, t, of, (List.range k).map (polC cl ps), [], []⟩
/-- commitment k is taken -/
def stOk (cl : List Int) (t : Int) (of : Nat) (ps : List (List Nat)) (k : Nat) : Prop := ((polN ps k).length : Int) = t ∧ (powersD (polN ps k)).2 = 0 ∧ (commitD (stB cl t of ps k) (polC cl ps k)).2 = 0
instance (cl : List Int) (t : Int) (of : Nat) (ps : List (List Nat)) (k : Nat) : Decidable (stOk cl t of ps k) := by unfold stOk; infer_instance
def startB (cl : List Int) (t : Int) (of : Nat) (ps : List (List Nat)) : Bool := (newD cl t of).2 == 0 && (ps.length == cl.length && (List.range ps.length).all fun k => decide (stOk cl t of ps k))
theorem commitD_yes {b : BeaD} {c : ComD} (h : (commitD b c).2 = 0) : (commitD b c).1 = {b with coms := b.coms ++ [c]} := by
  unfold commitD at h ⊢
  split at h
  · split at h
    · cases h
    · rename_i h1 h2; rw [if_pos h1, if_neg h2]
  · rename_i h1; exact absurd h h1
theorem stB_succ {cl : List Int} {t : Int} {of : Nat} {ps : List (List Nat)} {k : Nat} (h : stOk cl t of ps k) : (commitD (stB cl t of ps k) (polC cl ps k)).1 = stB cl t of ps (k + 1) := by
  rw [commitD_yes h.2.2]
  unfold stB
  rw [List.range_succ, List.map_append]; rfl
theorem newD_yes {cl : List Int} {t : Int} {of : Nat} {ps : List (List Nat)} (h : (newD cl t of).2 = 0) : (newD cl t of).1 = stB cl t of ps 0 ∧ NewOk cl t of := by
  unfold newD at h ⊢
  split at h
  · rename_i h1; rw [if_pos h1]; exact ⟨rfl, by simpa [newB] using h1⟩
  · cases h
theorem powersD_len {p : List Nat} : (powersD p).1.length ≤ 24 := by
  unfold powersD
  split
  · rename_i h; unfold allD lenOk at h; simp at h; simp; omega
  · simp
theorem powersD_u64 {p : List Nat} : U64s (powersD p).1 := by
  unfold powersD
  split
  · intro x hx
    obtain ⟨y, -, rfl⟩ := List.mem_map.1 hx
    exact Nat.lt_trans (pw_lt _ _) (by decide)
  · intro x hx; cases hx
theorem stB_small {cl : List Int} {t : Int} {of : Nat} {ps : List (List Nat)} {k : Nat} (hn : NewOk cl t of) (hc : ∀ i, i < cl.length → W64 (nthI cl i)) (hk : k ≤ cl.length) : SmallB (stB cl t of ps k) := by
  have h24 := hn.n24
  have hco : ∀ i, i < k → comN (stB cl t of ps k).coms i = polC cl ps i := fun i hi' => by
    unfold comN stB
    rw [List.getD_eq_getElem?_getD, List.getElem?_map, List.getElem?_range hi']
    rfl
  have hcl : (stB cl t of ps k).coms.length = k := by simp [stB]
  refine ⟨by show cl.length ≤ 1000; omega, by rw [hcl]; omega, by show 0 ≤ 1000; omega, by show 0 ≤ 1000; omega, hc, fun i hi => ?_, fun i hi => ?_, fun i hi => absurd hi (by show ¬ i < 0; omega), fun i hi => absurd hi (by show ¬ i < 0; omega), Nat.lt_of_le_of_lt hn.o60 (by decide), ?_⟩
  · rw [hcl] at hi; rw [hco i hi]; exact hc i (by omega)
  · rw [hcl] at hi; rw [hco i hi]
    exact ⟨powersD_u64, Nat.le_trans powersD_len (by omega)⟩
  · have h1 := hn.t1
    have h2 := hn.tn
    show W64 t
    exact ⟨by omega, by omega⟩
/-- the form of a beacon's value -/
def BeaShape (v : Value) : Prop := ∃ (y0 : Option Addr) (y1 y2 : Nat) (y3 y4 : Int) (y5 : Option Addr) (y6 y7 : Nat) (y8 : Option Addr) (y9 y10 : Nat) (y11 : Option Addr) (y12 y13 : Nat), v = .agg #[.slice y0 y1 y2, .int .i64 y3, .int .u64 y4, .slice y5 y6 y7, .slice y8 y9 y10, .slice y11 y12 y13]
def StartE (w : World) (ok : Bool) (b : BeaD) (e : Ending) (w' : World) : Prop := ∃ v, e = .returned (.tuple #[v, .bool ok]) ∧ BeaShape v ∧ (ok = true → IsBea w' (fun q => w.heap.size < q) v b) ∧ Below w.heap.size w w'
theorem startB_no {cl : List Int} {t : Int} {of : Nat} {ps : List (List Nat)} {k : Nat} (hk : k < ps.length) (h : ¬ stOk cl t of ps k) : startB cl t of ps = false := by
  unfold startB
  rw [Bool.and_eq_false_iff]; right
  rw [Bool.and_eq_false_iff]; right
  rw [List.all_eq_false]
  exact ⟨k, List.mem_range.2 hk, by simpa using h⟩
theorem startB_bad {cl : List Int} {t : Int} {of : Nat} {ps : List (List Nat)} (h : ((newD cl t of).2 != 0 || (((ps.length : Int) != (cl.length : Int)) || (((cl.length : Int) == 0) || decide (t < 1)))) = true) : startB cl t of ps = false := by
  by_cases h1 : (newD cl t of).2 = 0
  · obtain ⟨-, hn⟩ := newD_yes (ps := ps) h1
    have n2 := hn.n2
    have t1 := hn.t1
    simp only [Bool.or_eq_true, bne_iff_ne, beq_iff_eq, decide_eq_true_eq] at h
    rcases h with h | h | h | h
    · exact absurd h1 h
    · unfold startB
      have : (ps.length == cl.length) = false := by rw [beq_eq_false_iff_ne]; omega
      rw [this]; simp
    · omega
    · omega
  · unfold startB
    have : ((newD cl t of).2 == 0) = false := by rw [beq_eq_false_iff_ne]; exact h1
    rw [this]; simp
theorem startB_yes {cl : List Int} {t : Int} {of : Nat} {ps : List (List Nat)} (h1 : (newD cl t of).2 = 0) (h2 : ps.length = cl.length) (h : ∀ k, k < ps.length → stOk cl t of ps k) : startB cl t of ps = true := by
  unfold startB
  rw [Bool.and_eq_true, Bool.and_eq_true, List.all_eq_true]
  exact ⟨by simpa using h1, by simpa using h2, fun k hk => by simpa using h k (List.mem_range.1 hk)⟩
theorem blk6 {W : World} {g : Nat} {t : TypeId} {v0 v1 v2 v3 v4 v5 : Value} (h : W.heap[g]? = some (.cells #[v0, v1, v2, v3, v4, v5] t (0, 0))) :
    (W.cell? ⟨g, 0, none⟩ = some v0 ∧ W.cell? ⟨g, 1, none⟩ = some v1 ∧ W.cell? ⟨g, 2, none⟩ = some v2 ∧ W.cell? ⟨g, 3, none⟩ = some v3 ∧ W.cell? ⟨g, 4, none⟩ = some v4 ∧ W.cell? ⟨g, 5, none⟩ = some v5) ∧
    (W.frozen? ⟨g, 0, none⟩ = false ∧ W.frozen? ⟨g, 1, none⟩ = false ∧ W.frozen? ⟨g, 2, none⟩ = false ∧ W.frozen? ⟨g, 3, none⟩ = false ∧ W.frozen? ⟨g, 4, none⟩ = false ∧ W.frozen? ⟨g, 5, none⟩ = false) :=
  ⟨⟨cell_of h rfl, cell_of h rfl, cell_of h rfl, cell_of h rfl, cell_of h rfl, cell_of h rfl⟩, by simp [World.frozen?, h], by simp [World.frozen?, h], by simp [World.frozen?, h], by simp [World.frozen?, h], by simp [World.frozen?, h], by simp [World.frozen?, h]⟩
theorem IsBea.keep {w w' : World} {M : Nat → Prop} {v : Value} {b : BeaD} (h : IsBea w M v b) (hk : ∀ p : Addr, M p.block → p.block < w.heap.size → w'.cell? p = w.cell? p) : IsBea w' M v b := by
  obtain ⟨cv, kv, rv, ov, e, h1, ⟨vs, h2, h2'⟩, h3, h4⟩ := h
  exact ⟨cv, kv, rv, ov, e, IsSl.keep h1 hk, ⟨vs, IsSl.keep h2 hk, fun i hi => IsSl.keep (h2' i hi) hk⟩, IsSl.keep h3 hk, IsSl.keep h4 hk⟩
theorem IsBea.shape {w : World} {M : Nat → Prop} {v : Value} {b : BeaD} (h : IsBea w M v b) : ∃ (y0 : Option Addr) (y1 y2 : Nat) (y3 y4 : Int) (y5 : Option Addr) (y6 y7 : Nat) (y8 : Option Addr) (y9 y10 : Nat) (y11 : Option Addr) (y12 y13 : Nat), v = .agg #[.slice y0 y1 y2, .int .i64 y3, .int .u64 y4, .slice y5 y6 y7, .slice y8 y9 y10, .slice y11 y12 y13] := by
  obtain ⟨x0, x1, x2, x3, x4, x5, x6, x7, e, -⟩ := h.parts
  exact ⟨_, _, _, _, _, _, _, _, _, _, _, _, _, _, e⟩
def w6 (W : World) (g : Nat) (v0 v1 v2 v3 v4 v5 : Value) : World := ((((((W.setCell ⟨g, 0, none⟩ (v0)).setCell ⟨g, 1, none⟩ (v1)).setCell ⟨g, 2, none⟩ (v2)).setCell ⟨g, 3, none⟩ (v3)).setCell ⟨g, 4, none⟩ (v4)).setCell ⟨g, 5, none⟩ (v5))
theorem w6_at {W : World} {g : Nat} {t : TypeId} {u0 u1 u2 u3 u4 u5 : Value} (h : W.heap[g]? = some (.cells #[u0, u1, u2, u3, u4, u5] t (0, 0))) (v0 v1 v2 v3 v4 v5 : Value) : (w6 W g v0 v1 v2 v3 v4 v5).heap[g]? = some (.cells #[v0, v1, v2, v3, v4, v5] t (0, 0)) := by
  have hx := Blk_set (Blk_set (Blk_set (Blk_set (Blk_set (Blk_set h (j := 0) v0) (j := 1) v1) (j := 2) v2) (j := 3) v3) (j := 4) v4) (j := 5) v5
  unfold w6; rw [hx]; rfl
theorem w6_other {W : World} {g k : Nat} (h : k ≠ g) (v0 v1 v2 v3 v4 v5 : Value) : (w6 W g v0 v1 v2 v3 v4 v5).heap[k]? = W.heap[k]? := by
  unfold w6
  repeat rw [Below.heap_setCell _ _ _ _ (show k ≠ g from h)]
theorem w6_below {W w : World} {g n : Nat} (h : Below n w W) (hg : n ≤ g) (v0 v1 v2 v3 v4 v5 : Value) : Below n w (w6 W g v0 v1 v2 v3 v4 v5) :=
  (((((h.setCell hg _).setCell hg _).setCell hg _).setCell hg _).setCell hg _).setCell hg _
theorem w6_size (W : World) (g : Nat) (v0 v1 v2 v3 v4 v5 : Value) : (w6 W g v0 v1 v2 v3 v4 v5).heap.size = W.heap.size := by simp [w6]
/-- a box that holds a beacon -/
def BoxB (w : World) (g : Nat) (b : BeaD) : Prop := ∃ (y0 : Option Addr) (y1 y2 : Nat) (y3 y4 : Int) (y5 : Option Addr) (y6 y7 : Nat) (y8 : Option Addr) (y9 y10 : Nat) (y11 : Option Addr) (y12 y13 : Nat), w.heap[g]? = some (.cells #[.slice y0 y1 y2, .int .i64 y3, .int .u64 y4, .slice y5 y6 y7, .slice y8 y9 y10, .slice y11 y12 y13] 32 (0, 0)) ∧ IsBea w (fun q => g < q) (.agg #[.slice y0 y1 y2, .int .i64 y3, .int .u64 y4, .slice y5 y6 y7, .slice y8 y9 y10, .slice y11 y12 y13]) b
theorem BoxB.below {w w' : World} {g : Nat} {b : BeaD} (h : BoxB w g b) (hb : Below w.heap.size w w') : BoxB w' g b := by
  obtain ⟨y0, y1, y2, y3, y4, y5, y6, y7, y8, y9, y10, y11, y12, y13, h1, h2⟩ := h
  exact ⟨y0, y1, y2, y3, y4, y5, y6, y7, y8, y9, y10, y11, y12, y13, (hb.block _ (lt_heap h1)).trans h1, h2.below hb⟩
theorem BoxB.lt {w : World} {g : Nat} {b : BeaD} (h : BoxB w g b) : g < w.heap.size := by
  obtain ⟨y0, y1, y2, y3, y4, y5, y6, y7, y8, y9, y10, y11, y12, y13, h1, -⟩ := h; exact lt_heap h1
theorem BoxB.set {w : World} {g : Nat} {b : BeaD} {y0 : Option Addr} {y1 y2 : Nat} {y3 y4 : Int} {y5 : Option Addr} {y6 y7 : Nat} {y8 : Option Addr} {y9 y10 : Nat} {y11 : Option Addr} {y12 y13 : Nat} {u0 u1 u2 u3 u4 u5 : Value} (h : w.heap[g]? = some (.cells #[u0, u1, u2, u3, u4, u5] 32 (0, 0))) (hb : IsBea w (fun q => g < q) (.agg #[.slice y0 y1 y2, .int .i64 y3, .int .u64 y4, .slice y5 y6 y7, .slice y8 y9 y10, .slice y11 y12 y13]) b) : BoxB (w6 w g (.slice y0 y1 y2) (.int .i64 y3) (.int .u64 y4) (.slice y5 y6 y7) (.slice y8 y9 y10) (.slice y11 y12 y13)) g b :=
  ⟨y0, y1, y2, y3, y4, y5, y6, y7, y8, y9, y10, y11, y12, y13, w6_at h _ _ _ _ _ _, hb.keep fun p hp _ => World.cell?_of_block (w := w) (w6_other (by have : g < p.block := hp; omega) _ _ _ _ _ _)⟩
theorem BoxB.val {w : World} {g : Nat} {b : BeaD} {y0 : Option Addr} {y1 y2 : Nat} {y3 y4 : Int} {y5 : Option Addr} {y6 y7 : Nat} {y8 : Option Addr} {y9 y10 : Nat} {y11 : Option Addr} {y12 y13 : Nat} (h : BoxB w g b) (hk : w.heap[g]? = some (.cells #[.slice y0 y1 y2, .int .i64 y3, .int .u64 y4, .slice y5 y6 y7, .slice y8 y9 y10, .slice y11 y12 y13] 32 (0, 0))) : IsBea w (fun q => g < q) (.agg #[.slice y0 y1 y2, .int .i64 y3, .int .u64 y4, .slice y5 y6 y7, .slice y8 y9 y10, .slice y11 y12 y13]) b := by
  obtain ⟨z0, z1, z2, z3, z4, z5, z6, z7, z8, z9, z10, z11, z12, z13, h1, h2⟩ := h
  rw [hk] at h1
  injection h1 with h1
  injection h1 with h1
  rw [h1]; exact h2
set_option maxRecDepth 100000 in
set_option maxHeartbeats 8000000 in
theorem start_any (w : World) (M M' : Nat → Prop) (v u : Value) (cl : List Int) (t : Int) (of : Nat) (ps : List (List Nat)) (ha : IsInts w M v cl) (hp : IsPol w M' u ps) (hw : ∀ i, i < cl.length → W64 (nthI cl i)) (hu : ∀ i, i < ps.length → U64s (polN ps i)) :
    Calls Try.prog 11 #[v, .int .i64 t, .int .u64 (of : Int), u] w (StartE w (startB cl t of ps) (stB cl t of ps cl.length)) := by
  have HA := Lib.hid ha
  have HP := Lib.hid hp
  have HU := Lib.hid hu
  have HWW := Lib.hid hw
  obtain ⟨aA, ac, rfl, -⟩ := ha
  obtain ⟨bA, bc, rfl, -, hbc⟩ := hp.len
  have hpl : ps.length ≤ 9223372036854775807 := by obtain ⟨A', c', e, h1, h2⟩ := hp.len; omega
  have D1 := Lib.hid (fun (W : World) (hW : Below w.heap.size w W) => Lib.hid (new_any W M _ cl t of (IsSl.below HA.out hW)))
  obtain ⟨R, hR⟩ : ∃ R, R = startB cl t of ps := ⟨_, rfl⟩
  have HR := Lib.hid hR
  obtain ⟨bz, hbz⟩ : ∃ z, z = stB cl t of ps cl.length := ⟨_, rfl⟩
  have HBZ := Lib.hid hbz
  obtain ⟨nd, hnd⟩ : ∃ z, z = newD cl t of := ⟨_, rfl⟩
  have HND := Lib.hid hnd
  rw [← hR, ← hbz]
  rw [← hnd] at D1
  clear hp hw hu hR hbz hnd hbc
  go_enter Try.func11, Try.ntmps11
  go_wp2_with fail
  refine nameW fun W1 hW1 => ?_
  have hb1 : Below w.heap.size w W1 := by rw [hW1.out]; exact (Below.refl _ _).alloc (Nat.le_refl _) _
  have hz1 : W1.heap.size = w.heap.size + 1 := by rw [hW1.out]; simp
  have k1 : W1.heap[w.heap.size]? = some (.cells #[.slice none 0 0, .int .i64 0, .int .u64 0, .slice none 0 0, .slice none 0 0, .slice none 0 0] 32 (0, 0)) := by rw [hW1.out]; exact heap_alloc_new _ _
  refine (D1.out W1 hb1).out.mono ?_
  rintro e w2 ⟨bv, rfl, hbv, hb2⟩
  have hbv := IsBea.mono (M' := fun q => w.heap.size < q) hbv (fun q _ hq => by show w.heap.size < q; have : W1.heap.size ≤ q := hq; omega)
  obtain ⟨y0, y1, y2, y3, y4, y5, y6, y7, y8, y9, y10, y11, y12, y13, rfl⟩ := hbv.shape
  have k2 := (hb2.block _ (lt_heap k1)).trans k1
  have HX2 : Hid (BoxB (w6 w2 w.heap.size (.slice y0 y1 y2) (.int .i64 y3) (.int .u64 y4) (.slice y5 y6 y7) (.slice y8 y9 y10) (.slice y11 y12 y13)) w.heap.size nd.1) := Lib.hid (BoxB.set k2 hbv)
  have HB2 : Hid (Below w.heap.size w (w6 w2 w.heap.size (.slice y0 y1 y2) (.int .i64 y3) (.int .u64 y4) (.slice y5 y6 y7) (.slice y8 y9 y10) (.slice y11 y12 y13))) := Lib.hid (w6_below (hb1.trans (hb2.mono hb1.size)) (Nat.le_refl _) _ _ _ _ _ _)
  have K2 := Lib.hid (w6_at k2 (.slice y0 y1 y2) (.int .i64 y3) (.int .u64 y4) (.slice y5 y6 y7) (.slice y8 y9 y10) (.slice y11 y12 y13))
  have hgz : w.heap.size < w2.heap.size := lt_heap k2
  obtain ⟨⟨c0, c1, c2, c3, c4, c5⟩, ⟨f0, f1, f2, f3, f4, f5⟩⟩ := blk6 k2
  clear hbv hb1 hb2 hz1 k1 k2 hW1
  go_upto_region 2 with fail
  refine nameC fun W3 hW3 => ?_
  have hw3 : W3 = w6 w2 w.heap.size (.slice y0 y1 y2) (.int .i64 y3) (.int .u64 y4) (.slice y5 y6 y7) (.slice y8 y9 y10) (.slice y11 y12 y13) := hW3.out
  rw [← hw3] at HX2 HB2 K2
  have HW3 := Lib.hid hw3
  clear hw3 hW3 hgz c0 c1 c2 c3 c4 c5 f0 f1 f2 f3 f4 f5
  obtain ⟨ez, hez⟩ : ∃ z, z = nd.2 := ⟨_, rfl⟩
  have HEZ := Lib.hid hez
  rw [← hez]
  clear hez
  obtain ⟨⟨c0, c1, c2, c3, c4, c5⟩, ⟨f0, f1, f2, f3, f4, f5⟩⟩ := blk6 K2.out
  obtain ⟨p1, h1⟩ : ∃ p, p = (ez != 0) := ⟨_, rfl⟩
  obtain ⟨p2, h2⟩ : ∃ p, p = ((ps.length : Int) != (cl.length : Int)) := ⟨_, rfl⟩
  obtain ⟨p3, h3⟩ : ∃ p, p = ((cl.length : Int) == 0) := ⟨_, rfl⟩
  obtain ⟨p4, h4⟩ : ∃ p, p = decide (t < 1) := ⟨_, rfl⟩
  have HPP := Lib.hid (And.intro h1 (And.intro h2 (And.intro h3 h4)))
  replace h1 := h1.symm
  replace h2 := h2.symm
  replace h3 := h3.symm
  replace h4 := h4.symm
  by_cases hany : (p1 || (p2 || (p3 || p4))) = true
  · have HRF : Hid (R = false) := Lib.hid (by
      rw [HR.out]
      obtain ⟨q1, q2, q3, q4⟩ := HPP.out
      rw [HEZ.out, HND.out] at q1
      exact startB_bad (by rw [← q1, ← q2, ← q3, ← q4]; exact hany))
    clear HPP
    cases p1 <;> cases p2 <;> cases p3 <;> cases p4 <;> first | (exfalso; revert hany; decide) | skip
    all_goals clear hany
    all_goals (
      go_wp2_with fail
      refine nameG (p := fun W => bodyPost Try.prog Try.f11 _ Exit.ret _ W) fun W7 hW7 => ?_
      have hk7 : W7.heap[w.heap.size]? = some (.cells #[.slice y0 y1 y2, .int .i64 y3, .int .u64 y4, .slice y5 y6 y7, .slice y8 y9 y10, .slice y11 y12 y13] 32 (0, 0)) := by
        have hx := (Blk_set (Blk_set (Blk_set (Blk_set (Blk_set (Blk_set K2.out (j := 0) (.slice y0 y1 y2)) (j := 1) (.int .i64 y3)) (j := 2) (.int .u64 y4)) (j := 3) (.slice y5 y6 y7)) (j := 4) (.slice y8 y9 y10)) (j := 5) (.slice y11 y12 y13))
        rw [hW7.out, hx]; rfl
      have j0 := cell_of (j := 0) hk7 rfl
      have j1 := cell_of (j := 1) hk7 rfl
      have j2 := cell_of (j := 2) hk7 rfl
      have j3 := cell_of (j := 3) hk7 rfl
      have j4 := cell_of (j := 4) hk7 rfl
      have j5 := cell_of (j := 5) hk7 rfl
      refine bodyPost_ret (v := .tuple #[.agg #[.slice y0 y1 y2, .int .i64 y3, .int .u64 y4, .slice y5 y6 y7, .slice y8 y9 y10, .slice y11 y12 y13], .bool false]) (by simp [results, Try.results11, go_sem, j0, j1, j2, j3, j4, j5]) rfl ?_
      have hw7 : W7 = w6 W3 w.heap.size (.slice y0 y1 y2) (.int .i64 y3) (.int .u64 y4) (.slice y5 y6 y7) (.slice y8 y9 y10) (.slice y11 y12 y13) := hW7.out
      rw [HRF.out]
      exact ⟨_, rfl, ⟨_, _, _, _, _, _, _, _, _, _, _, _, _, _, rfl⟩, fun h => (by cases h), by rw [hw7]; exact w6_below HB2.out (Nat.le_refl _) _ _ _ _ _ _⟩
    )
  · have hp0 : p1 = false ∧ p2 = false ∧ p3 = false ∧ p4 = false := by
      revert hany
      cases p1 <;> cases p2 <;> cases p3 <;> cases p4 <;> decide
    obtain ⟨rfl, rfl, rfl, rfl⟩ := hp0
    clear hany
    go_wp2_with fail
    have HN0 : Hid ((newD cl t of).2 = 0 ∧ ps.length = cl.length) := Lib.hid (by
      obtain ⟨q1, q2, -, -⟩ := HPP.out
      refine ⟨?_, ?_⟩
      · rw [← HND.out, ← HEZ.out]; simpa using q1.symm
      · have := q2.symm; simp at this; omega)
    have HNO := Lib.hid (newD_yes (ps := ps) HN0.out.1)
    have HBX : Hid (BoxB W3 w.heap.size (stB cl t of ps 0)) := Lib.hid (by rw [← HNO.out.1, ← HND.out]; exact HX2.out)
    clear HPP h1 h2 h3 h4 c0 c1 c2 c3 c4 c5 f0 f1 f2 f3 f4 f5 K2 HX2 HW3
    go_loopw [43] (fun s43 wr => ∃ k : Nat, k ≤ ps.length ∧ s43 = .int .i64 (k : Int) ∧ Hid (BoxB wr w.heap.size (stB cl t of ps k)) ∧ Hid (∀ i, i < k → stOk cl t of ps i) ∧ Hid (Below w.heap.size w wr)) (fun s43 _ => ps.length - (intOf s43).toNat)
    case atStart => exact ⟨0, Nat.zero_le _, rfl, HBX, Lib.hid (fun i hi => absurd hi (by omega)), HB2⟩
    case round =>
      obtain ⟨k, hk, rfl, HX, HOK, HB⟩ := hrel
      clear HBX HB2 
      obtain ⟨y0, y1, y2, y3, y4, y5, y6, y7, y8, y9, y10, y11, y12, y13, hk0, hbx⟩ := HX.out
      have HK0 := Lib.hid hk0
      have HBE := Lib.hid hbx
      obtain ⟨⟨c0, c1, c2, c3, c4, c5⟩, ⟨f0, f1, f2, f3, f4, f5⟩⟩ := blk6 hk0
      clear hk0 hbx HX
      by_cases hlt : k < ps.length
      · have hk1 : (k : Int) < (ps.length : Int) := by omega
        have hk2 : (0 : Int) ≤ (k : Int) := by omega
        have hkc : (k : Int) < (cl.length : Int) := by have := HN0.out.2; omega
        obtain ⟨b1, o1, vA, vc, rfl, hb1, hc1, hkv⟩ := HP.out.at_ HB.out hlt
        have HKV := Lib.hid hkv
        clear hkv
        obtain ⟨n1, hn1⟩ : ∃ z, z = (polN ps k).length := ⟨_, rfl⟩
        have HN1 := Lib.hid hn1
        rw [← hn1] at hc1
        clear hn1
        by_cases hlen : (n1 : Int) = t
        · have t1 : ((n1 : Int) != t) = false := by simp [hlen]
          have HLN := Lib.hid hlen
          clear hlen
          go_wp2_with fail
          rw [HN1.out]
          refine (powers_any _ _ _ _ HKV.out (HU.out k hlt)).mono ?_
          rintro e w4 ⟨kv, rfl, hkv4, hb4⟩
          obtain ⟨kA, kc, rfl, -⟩ := id hkv4
          have HKV4 := Lib.hid hkv4
          have HB4 := Lib.hid (HB.out.trans (hb4.mono HB.out.size))
          have hk4 := (hb4.block _ (lt_heap HK0.out)).trans HK0.out
          have HK4 := Lib.hid hk4
          have HBE4 := Lib.hid (HBE.out.below hb4)
          obtain ⟨⟨c0, c1, c2, c3, c4, c5⟩, ⟨f0, f1, f2, f3, f4, f5⟩⟩ := blk6 hk4
          have hgr : w.heap.size < wr.heap.size := lt_heap HK0.out
          clear hb4 hkv4 hk4
          obtain ⟨m, hm⟩ : ∃ z, z = (powersD (polN ps k)).1.length := ⟨_, rfl⟩
          have HM := Lib.hid hm
          obtain ⟨pz, hpz⟩ : ∃ z, z = (powersD (polN ps k)).2 := ⟨_, rfl⟩
          have HPZ := Lib.hid hpz
          rw [← hm, ← hpz]
          rw [← hm] at HKV4
          clear hm hpz
          by_cases hpo : pz = 0
          · subst hpo
            have HPL : Hid ((powersD (polN ps k)).1.length ≤ 24) := Lib.hid powersD_len
            obtain ⟨b2, o2, rfl, hb2, hcl2⟩ := HA.out.at_ (Below.refl _ _) (show k < cl.length by rw [← HN0.out.2]; exact hlt)
            have HC := Lib.hid (show ∀ W', Below w4.heap.size w4 W' → (W'.cell? ⟨w.heap.size, 0, none⟩ = some (.slice y0 y1 y2) ∧ W'.cell? ⟨w.heap.size, 1, none⟩ = some (.int .i64 y3) ∧ W'.cell? ⟨w.heap.size, 2, none⟩ = some (.int .u64 y4) ∧ W'.cell? ⟨w.heap.size, 3, none⟩ = some (.slice y5 y6 y7) ∧ W'.cell? ⟨w.heap.size, 4, none⟩ = some (.slice y8 y9 y10) ∧ W'.cell? ⟨w.heap.size, 5, none⟩ = some (.slice y11 y12 y13) ∧ W'.cell? ⟨b2, o2 + k, none⟩ = some (.int .i64 (nthI cl k))) from fun W' h => by
              have e0 := (h.block _ (lt_heap HK4.out)).trans HK4.out
              exact ⟨cell_of e0 rfl, cell_of e0 rfl, cell_of e0 rfl, cell_of e0 rfl, cell_of e0 rfl, cell_of e0 rfl, ((HB4.out.trans (h.mono HB4.out.size)).cell (p := ⟨b2, o2 + k, none⟩) hb2).trans hcl2⟩)
            have D4 := Lib.hid (fun (W : World) (hW : Below w4.heap.size w4 W) => Lib.hid (commit_any W _ _ _ _ (stB cl t of ps k) (polC cl ps k) (HBE4.out.below hW) (stB_small HNO.out.2 HWW.out (by have := HN0.out.2; omega)) ⟨_, rfl, IsSl.below HKV4.out hW⟩ (HWW.out k (by rw [← HN0.out.2]; exact hlt)) (Nat.le_trans HPL.out (by omega))))
            obtain ⟨cz, hcz⟩ : ∃ z, z = commitD (stB cl t of ps k) (polC cl ps k) := ⟨_, rfl⟩
            have HCZ := Lib.hid hcz
            rw [← hcz] at D4
            change Hid (∀ W, _ → Hid (Calls _ _ #[_, .agg #[.int .i64 (nthI cl k), _]] _ _)) at D4
            obtain ⟨xk, hxk⟩ : ∃ z, z = nthI cl k := ⟨_, rfl⟩
            rw [← hxk] at D4 HC
            clear hcz hxk hcl2 c0 c1 c2 c3 c4 c5 f0 f1 f2 f3 f4 f5
            go_upto_region 12 with fail
            refine anyL_begin (z := 11) (S := fun W9 => Below w4.heap.size w4 W9) (by kernel_rfl) (Below.drew (Below.refl _ _)) (fun hHeld => ?_)
            refine AnyL.take (i := 0) (v := ?_) rfl (by kernel_rfl) (by kernel_rfl) (fun _ _ _ h => h) (by kernel_rfl) (by kernel_rfl) (by kernel_rfl) (Or.inl ⟨by rfl, ?_⟩) hHeld ?_
            rotate_left 1
            focus (intro w hSw; (try dsimp only at hSw); obtain ⟨c0, c1, c2, c3, c4, c5, ck⟩ := HC.out w hSw; go_simp; (try with_reducible rfl))
            (repeat (first | simp only [Act.put] | simp only [List.setIfInBounds_toArray] | simp only [List.set_cons_zero] | simp only [List.set_cons_succ]))
            refine AnyL.take (i := 1) (v := ?_) rfl (by kernel_rfl) (by kernel_rfl) (fun _ _ _ h => h) (by kernel_rfl) (by kernel_rfl) (by kernel_rfl) (Or.inl ⟨by rfl, ?_⟩) hHeld ?_
            rotate_left 1
            focus (intro w hSw; (try dsimp only at hSw); go_simp; (try with_reducible rfl))
            (repeat (first | simp only [Act.put] | simp only [List.setIfInBounds_toArray] | simp only [List.set_cons_zero] | simp only [List.set_cons_succ]))
            refine AnyL.take (i := 2) (v := ?_) rfl (by kernel_rfl) (by kernel_rfl) (fun _ _ _ h => h) (by kernel_rfl) (by kernel_rfl) (by kernel_rfl) (Or.inl ⟨by rfl, ?_⟩) hHeld ?_
            rotate_left 1
            focus (intro w hSw; (try dsimp only at hSw); go_simp; (try with_reducible rfl))
            (repeat (first | simp only [Act.put] | simp only [List.setIfInBounds_toArray] | simp only [List.set_cons_zero] | simp only [List.set_cons_succ]))
            refine AnyL.take (i := 3) (v := ?_) rfl (by kernel_rfl) (by kernel_rfl) (fun _ _ _ h => h) (by kernel_rfl) (by kernel_rfl) (by kernel_rfl) (Or.inl ⟨by rfl, ?_⟩) hHeld ?_
            rotate_left 1
            focus (intro w hSw; (try dsimp only at hSw); go_simp; (try with_reducible rfl))
            (repeat (first | simp only [Act.put] | simp only [List.setIfInBounds_toArray] | simp only [List.set_cons_zero] | simp only [List.set_cons_succ]))
            refine AnyL.take (i := 4) (v := ?_) rfl (by kernel_rfl) (by kernel_rfl) (fun _ _ _ h => h) (by kernel_rfl) (by kernel_rfl) (by kernel_rfl) (Or.inl ⟨by rfl, ?_⟩) hHeld ?_
            rotate_left 1
            focus (intro w hSw; (try dsimp only at hSw); obtain ⟨c0, c1, c2, c3, c4, c5, ck⟩ := HC.out w hSw; go_simp; (try with_reducible rfl))
            (repeat (first | simp only [Act.put] | simp only [List.setIfInBounds_toArray] | simp only [List.set_cons_zero] | simp only [List.set_cons_succ]))
            refine AnyL.take (i := 5) (v := ?_) rfl (by kernel_rfl) (by kernel_rfl) (fun _ _ _ h => h) (by kernel_rfl) (by kernel_rfl) (by kernel_rfl) (Or.inl ⟨by rfl, ?_⟩) hHeld ?_
            rotate_left 1
            focus (intro w hSw; (try dsimp only at hSw); go_simp; (try with_reducible rfl))
            (repeat (first | simp only [Act.put] | simp only [List.setIfInBounds_toArray] | simp only [List.set_cons_zero] | simp only [List.set_cons_succ]))
            refine AnyL.take (i := 6) (v := ?_) rfl (by kernel_rfl) (by kernel_rfl) (fun _ _ _ h => h) (by kernel_rfl) (by kernel_rfl) (by kernel_rfl) (Or.inl ⟨by rfl, ?_⟩) hHeld ?_
            rotate_left 1
            focus (intro w hSw; (try dsimp only at hSw); go_simp; (try with_reducible rfl))
            (repeat (first | simp only [Act.put] | simp only [List.setIfInBounds_toArray] | simp only [List.set_cons_zero] | simp only [List.set_cons_succ]))
            refine AnyL.one (i := 7) (by kernel_rfl) rfl (fun K hK => ?_)
            go_simp
            go_at_call 20
            refine (D4.out _ (by repeat (first | with_reducible exact Below.refl _ _ | (with_reducible refine Below.drew ?_)))).out.mono ?_
            rintro e w8 ⟨bv, rfl, hbv, hb8⟩
            have hb8w : Below w4.heap.size w4 w8 := (show Below w4.heap.size w4 _ from (by repeat (first | with_reducible exact Below.refl _ _ | (with_reducible refine Below.drew ?_)))).trans (hb8.mono (show Below w4.heap.size w4 _ from (by repeat (first | with_reducible exact Below.refl _ _ | (with_reducible refine Below.drew ?_)))).size)
            have HB8 := Lib.hid hb8w
            have hbv := IsBea.mono (M' := fun q => w.heap.size < q) hbv (fun q _ hq => by
              show w.heap.size < q
              have h4 : w.heap.size < w4.heap.size := lt_heap HK4.out
              rcases hq with hq | hq | hq
              · exact hq
              · have : wr.heap.size ≤ q := hq; omega
              · have : w4.heap.size ≤ q := hq; omega)
            obtain ⟨z0, z1, z2, z3, z4, z5, z6, z7, z8, z9, z10, z11, z12, z13, rfl⟩ := hbv.shape
            have HBV8 := Lib.hid hbv
            have k8 := (hb8w.block _ (lt_heap HK4.out)).trans HK4.out
            have K8 := Lib.hid k8
            obtain ⟨⟨c0, c1, c2, c3, c4, c5⟩, ⟨f0, f1, f2, f3, f4, f5⟩⟩ := blk6 k8
            clear hbv hb8 hb8w k8
            refine hK.out _ _ (fun _ => HB8.out) (fun hHeld => ?_)
            replace hHeld := hHeld (by kernel_rfl)
            clear hK K
            (repeat (first | simp only [Act.put] | simp only [List.setIfInBounds_toArray] | simp only [List.set_cons_zero] | simp only [List.set_cons_succ]))
            refine AnyL.take (i := 8) (v := ?_) rfl (by kernel_rfl) (by kernel_rfl) (fun _ _ _ h => h) (by kernel_rfl) (by kernel_rfl) (by kernel_rfl) (Or.inl ⟨by rfl, ?_⟩) hHeld ?_
            rotate_left 1
            focus (intro w hSw; (try dsimp only at hSw); go_simp; (try with_reducible rfl))
            (repeat (first | simp only [Act.put] | simp only [List.setIfInBounds_toArray] | simp only [List.set_cons_zero] | simp only [List.set_cons_succ]))
            refine AnyL.take (i := 9) (v := ?_) rfl (by kernel_rfl) (by kernel_rfl) (fun _ _ _ h => h) (by kernel_rfl) (by kernel_rfl) (by kernel_rfl) (Or.inl ⟨by rfl, ?_⟩) hHeld ?_
            rotate_left 1
            focus (intro w hSw; (try dsimp only at hSw); go_simp; (try with_reducible rfl))
            (repeat (first | simp only [Act.put] | simp only [List.setIfInBounds_toArray] | simp only [List.set_cons_zero] | simp only [List.set_cons_succ]))
            refine AnyL.late (i := 10) (v := ?_) rfl (by kernel_rfl) (by kernel_rfl) (fun _ _ _ h => h) (by kernel_rfl) (by kernel_rfl) (Or.inl ⟨by rfl, ?_⟩) (fun _ => hHeld) ?_
            rotate_left 1
            focus (intro w hSw; (try dsimp only at hSw); go_simp; (try with_reducible rfl))
            (repeat (first | simp only [Act.put] | simp only [List.setIfInBounds_toArray] | simp only [List.set_cons_zero] | simp only [List.set_cons_succ]))
            refine AnyL.one (i := 11) (by kernel_rfl) rfl (fun K hK => ?_)
            go_simp
            refine hK.out _ _ (fun h => nomatch (show true = false from h)) (fun _ => ?_)
            clear hK K
            (try dsimp only)
            refine AnyL.one (i := 12) (by kernel_rfl) rfl (fun K hK => ?_)
            go_simp
            refine hK.out _ _ (fun h => nomatch (show true = false from h)) (fun _ => ?_)
            clear hK K
            (try dsimp only)
            refine AnyL.done (by kernel_rfl) ?_
            clear c0 c1 c2 c3 c4 c5 f0 f1 f2 f3 f4 f5
            go_upto_region 13 with fail
            refine nameC fun W9 hW9 => ?_
            have hw9 : W9 = w6 w8 w.heap.size (.slice z0 z1 z2) (.int .i64 z3) (.int .u64 z4) (.slice z5 z6 z7) (.slice z8 z9 z10) (.slice z11 z12 z13) := hW9.out
            have hx9 : BoxB W9 w.heap.size cz.1 := by rw [hw9]; exact BoxB.set K8.out HBV8.out
            have hk9 := w6_at K8.out (.slice z0 z1 z2) (.int .i64 z3) (.int .u64 z4) (.slice z5 z6 z7) (.slice z8 z9 z10) (.slice z11 z12 z13)
            rw [← hw9] at hk9
            have HB9 : Hid (Below w.heap.size w W9) := Lib.hid (by rw [hw9]; exact w6_below (HB4.out.trans (HB8.out.mono HB4.out.size)) (Nat.le_refl _) _ _ _ _ _ _)
            have HX9 := Lib.hid hx9
            have HK9 := Lib.hid hk9
            clear HB8 hw9 hx9 hk9 hW9
            obtain ⟨ce, hce⟩ : ∃ z, z = cz.2 := ⟨_, rfl⟩
            have HCE := Lib.hid hce
            rw [← hce]
            clear hce
            by_cases hc0 : ce = 0
            · subst hc0
              have HST : Hid (stOk cl t of ps k) := Lib.hid ⟨by rw [← HN1.out]; exact HLN.out, HPZ.out.symm, by rw [← HCZ.out]; exact HCE.out.symm⟩
              go_wp2_with fail
              go_roundw
              case rel => exact ⟨k + 1, by omega, by go_num, Lib.hid (by rw [← stB_succ HST.out, ← HCZ.out]; exact HX9.out), Lib.hid (fun i hi => by
                by_cases h : i < k
                · exact HOK.out i h
                · obtain rfl : i = k := by omega
                  exact HST.out), HB9⟩
              case measure => simp [intOf]; omega
            · have t2 : (ce != 0) = true := by simp [hc0]
              have HRF : Hid (R = false) := Lib.hid (by rw [HR.out]; exact startB_no hlt (fun h => hc0 (by rw [HCE.out, HCZ.out]; exact h.2.2)))
              clear hc0
              obtain ⟨⟨c0, c1, c2, c3, c4, c5⟩, ⟨f0, f1, f2, f3, f4, f5⟩⟩ := blk6 HK9.out
              go_wp2_with fail
              refine nameG (p := fun W => bodyPost Try.prog Try.f11 _ Exit.ret _ W) fun W7 hW7 => ?_
              have hk7 : W7.heap[w.heap.size]? = some (.cells #[.slice z0 z1 z2, .int .i64 z3, .int .u64 z4, .slice z5 z6 z7, .slice z8 z9 z10, .slice z11 z12 z13] 32 (0, 0)) := by
                have hx := (Blk_set (Blk_set (Blk_set (Blk_set (Blk_set (Blk_set HK9.out (j := 0) (.slice z0 z1 z2)) (j := 1) (.int .i64 z3)) (j := 2) (.int .u64 z4)) (j := 3) (.slice z5 z6 z7)) (j := 4) (.slice z8 z9 z10)) (j := 5) (.slice z11 z12 z13))
                rw [hW7.out, hx]; rfl
              have j0 := cell_of (j := 0) hk7 rfl
              have j1 := cell_of (j := 1) hk7 rfl
              have j2 := cell_of (j := 2) hk7 rfl
              have j3 := cell_of (j := 3) hk7 rfl
              have j4 := cell_of (j := 4) hk7 rfl
              have j5 := cell_of (j := 5) hk7 rfl
              refine bodyPost_ret (v := .tuple #[.agg #[.slice z0 z1 z2, .int .i64 z3, .int .u64 z4, .slice z5 z6 z7, .slice z8 z9 z10, .slice z11 z12 z13], .bool false]) (by simp [results, Try.results11, go_sem, j0, j1, j2, j3, j4, j5]) rfl ?_
              have hw7 : W7 = w6 W9 w.heap.size (.slice z0 z1 z2) (.int .i64 z3) (.int .u64 z4) (.slice z5 z6 z7) (.slice z8 z9 z10) (.slice z11 z12 z13) := hW7.out
              rw [HRF.out]
              exact ⟨_, rfl, ⟨_, _, _, _, _, _, _, _, _, _, _, _, _, _, rfl⟩, fun h => (by cases h), by rw [hw7]; exact w6_below HB9.out (Nat.le_refl _) _ _ _ _ _ _⟩
          · have t2 : (pz != 0) = true := by simp [hpo]
            have HRF : Hid (R = false) := Lib.hid (by rw [HR.out]; exact startB_no hlt (fun h => hpo (by rw [HPZ.out]; exact h.2.1)))
            clear hpo
            go_wp2_with fail
            refine nameG (p := fun W => bodyPost Try.prog Try.f11 _ Exit.ret _ W) fun W7 hW7 => ?_
            have hk7 : W7.heap[w.heap.size]? = some (.cells #[.slice y0 y1 y2, .int .i64 y3, .int .u64 y4, .slice y5 y6 y7, .slice y8 y9 y10, .slice y11 y12 y13] 32 (0, 0)) := by
              have hx := (Blk_set (Blk_set (Blk_set (Blk_set (Blk_set (Blk_set HK4.out (j := 0) (.slice y0 y1 y2)) (j := 1) (.int .i64 y3)) (j := 2) (.int .u64 y4)) (j := 3) (.slice y5 y6 y7)) (j := 4) (.slice y8 y9 y10)) (j := 5) (.slice y11 y12 y13))
              rw [hW7.out, hx]; rfl
            have j0 := cell_of (j := 0) hk7 rfl
            have j1 := cell_of (j := 1) hk7 rfl
            have j2 := cell_of (j := 2) hk7 rfl
            have j3 := cell_of (j := 3) hk7 rfl
            have j4 := cell_of (j := 4) hk7 rfl
            have j5 := cell_of (j := 5) hk7 rfl
            refine bodyPost_ret (v := .tuple #[.agg #[.slice y0 y1 y2, .int .i64 y3, .int .u64 y4, .slice y5 y6 y7, .slice y8 y9 y10, .slice y11 y12 y13], .bool false]) (by simp [results, Try.results11, go_sem, j0, j1, j2, j3, j4, j5]) rfl ?_
            have hw7 : W7 = w6 w4 w.heap.size (.slice y0 y1 y2) (.int .i64 y3) (.int .u64 y4) (.slice y5 y6 y7) (.slice y8 y9 y10) (.slice y11 y12 y13) := hW7.out
            rw [HRF.out]
            exact ⟨_, rfl, ⟨_, _, _, _, _, _, _, _, _, _, _, _, _, _, rfl⟩, fun h => (by cases h), by rw [hw7]; exact w6_below HB4.out (Nat.le_refl _) _ _ _ _ _ _⟩
        · have t1 : ((n1 : Int) != t) = true := by simp [hlen]
          have HRF : Hid (R = false) := Lib.hid (by rw [HR.out]; exact startB_no hlt (fun h => hlen (by rw [HN1.out]; exact h.1)))
          clear hlen
          go_wp2_with fail
          refine nameG (p := fun W => bodyPost Try.prog Try.f11 _ Exit.ret _ W) fun W7 hW7 => ?_
          have hk7 : W7.heap[w.heap.size]? = some (.cells #[.slice y0 y1 y2, .int .i64 y3, .int .u64 y4, .slice y5 y6 y7, .slice y8 y9 y10, .slice y11 y12 y13] 32 (0, 0)) := by
            have hx := (Blk_set (Blk_set (Blk_set (Blk_set (Blk_set (Blk_set HK0.out (j := 0) (.slice y0 y1 y2)) (j := 1) (.int .i64 y3)) (j := 2) (.int .u64 y4)) (j := 3) (.slice y5 y6 y7)) (j := 4) (.slice y8 y9 y10)) (j := 5) (.slice y11 y12 y13))
            rw [hW7.out, hx]; rfl
          have j0 := cell_of (j := 0) hk7 rfl
          have j1 := cell_of (j := 1) hk7 rfl
          have j2 := cell_of (j := 2) hk7 rfl
          have j3 := cell_of (j := 3) hk7 rfl
          have j4 := cell_of (j := 4) hk7 rfl
          have j5 := cell_of (j := 5) hk7 rfl
          refine bodyPost_ret (v := .tuple #[.agg #[.slice y0 y1 y2, .int .i64 y3, .int .u64 y4, .slice y5 y6 y7, .slice y8 y9 y10, .slice y11 y12 y13], .bool false]) (by simp [results, Try.results11, go_sem, j0, j1, j2, j3, j4, j5]) rfl ?_
          have hw7 : W7 = w6 wr w.heap.size (.slice y0 y1 y2) (.int .i64 y3) (.int .u64 y4) (.slice y5 y6 y7) (.slice y8 y9 y10) (.slice y11 y12 y13) := hW7.out
          rw [HRF.out]
          exact ⟨_, rfl, ⟨_, _, _, _, _, _, _, _, _, _, _, _, _, _, rfl⟩, fun h => (by cases h), by rw [hw7]; exact w6_below HB.out (Nat.le_refl _) _ _ _ _ _ _⟩
      · obtain rfl : k = ps.length := by omega
        have hk1 : ¬ (ps.length : Int) < (ps.length : Int) := by omega
        have HRT : Hid (R = true) := Lib.hid (by rw [HR.out]; exact startB_yes HN0.out.1 HN0.out.2 HOK.out)
        go_wp2_with fail
        refine nameG (p := fun W => bodyPost Try.prog Try.f11 _ Exit.ret _ W) fun W7 hW7 => ?_
        have hk7 : W7.heap[w.heap.size]? = some (.cells #[.slice y0 y1 y2, .int .i64 y3, .int .u64 y4, .slice y5 y6 y7, .slice y8 y9 y10, .slice y11 y12 y13] 32 (0, 0)) := by
          have hx := (Blk_set (Blk_set (Blk_set (Blk_set (Blk_set (Blk_set HK0.out (j := 0) (.slice y0 y1 y2)) (j := 1) (.int .i64 y3)) (j := 2) (.int .u64 y4)) (j := 3) (.slice y5 y6 y7)) (j := 4) (.slice y8 y9 y10)) (j := 5) (.slice y11 y12 y13))
          rw [hW7.out, hx]; rfl
        have j0 := cell_of (j := 0) hk7 rfl
        have j1 := cell_of (j := 1) hk7 rfl
        have j2 := cell_of (j := 2) hk7 rfl
        have j3 := cell_of (j := 3) hk7 rfl
        have j4 := cell_of (j := 4) hk7 rfl
        have j5 := cell_of (j := 5) hk7 rfl
        refine bodyPost_ret (v := .tuple #[.agg #[.slice y0 y1 y2, .int .i64 y3, .int .u64 y4, .slice y5 y6 y7, .slice y8 y9 y10, .slice y11 y12 y13], .bool true]) (by simp [results, Try.results11, go_sem, j0, j1, j2, j3, j4, j5]) rfl ?_
        have hw7 : W7 = w6 wr w.heap.size (.slice y0 y1 y2) (.int .i64 y3) (.int .u64 y4) (.slice y5 y6 y7) (.slice y8 y9 y10) (.slice y11 y12 y13) := hW7.out
        rw [HRT.out]
        refine ⟨_, rfl, ⟨_, _, _, _, _, _, _, _, _, _, _, _, _, _, rfl⟩, fun _ => ?_, by rw [hw7]; exact w6_below HB.out (Nat.le_refl _) _ _ _ _ _ _⟩
        have hf := BoxB.set HK0.out HBE.out
        rw [← hw7] at hf
        rw [HBZ.out, ← HN0.out.2]
        exact hf.val hk7
end Go.Proofs.Ytgaanndidcdbpaa
