/- slices.Repeat of one int; an own row of n equal cells. For any seat. -/
import Derived.Test.YthlnfjbedehjdaaInts
import Derived.Test.YthlnfjbedehjdaaShM
import Derived.Laws.CopyOwn
import Derived.Deep.OwnRows
import Derived.Deep.RegionLaw
namespace Go.Proofs.Ythlnfjbedehjdaa
open Go.RowKit Go.Shelf Go.Deep
theorem addr_add_0 (ad : Addr) : ad.add 0 = ad := by cases ad; simp [Addr.add]
theorem Try.infoI64 : (Try.prog.info? 3).map (fun i => (i.zero, i.size, i.bytes)) = some (some (.int .i64 0), 1, 8) := by kernel_rfl
/-- what Repeat hands back -/
def RepW (w : World) (n : Nat) (u : Value) (e : Ending) (w' : World) : Prop := e = .returned (.slice (some ⟨w.heap.size, 0, none⟩) n n) ∧ w'.heap[w.heap.size]? = some (.cells (List.replicate n u).toArray 3 (0, 0)) ∧ Below w.heap.size w w'
theorem mul1 (n : Nat) (hn : n ≤ 4096) (w : World) : Calls Try.prog 107 #[.int .u64 1, .int .u64 n] w fun e w' => e = .returned (.tuple #[.int .u64 0, .int .u64 n]) ∧ w = w' := by
  refine (Try.bits_Mul 1 n (by omega) (by omega) w).mono fun e w' h => ⟨h.1.trans ?_, h.2.symm⟩
  have h1 : 1 * n / 18446744073709551616 = 0 := by omega
  have h2 : 1 * n % 18446744073709551616 = n := by omega
  rw [h1, h2]; rfl

/-- n times 0 -/
def nils (n : Nat) : List Value := List.replicate n (i64v 0)
theorem madeNils (n : Nat) : madeCells #[Value.int .i64 0] n = (nils n).toArray := by
  apply Array.ext
  · simp [madeCells, nils]
  · intro i h1 h2
    simp [madeCells, nils, Nat.mod_one, i64v]
theorem makeNils (n : Nat) (hn : n ≤ 4096) (w : World) : (Instr.makeSlice 22 (.int .i64 n) (.int .i64 n)).run Try.prog w = .ok (.slice (some ⟨w.heap.size, 0, none⟩) n n) (w.alloc (.cells (nils n).toArray 3)) := by
  have := run_make_row' (P := Try.prog) 22 3 (.int .i64 0) 8 Try.underlying22 Try.infoI64 rfl .i64 .i64 n (by omega) (by omega) w
  rw [madeNils] at this
  exact this
/-- the first k of n cells are u, the others 0 -/
def rep (n k : Nat) (u : Value) : List Value := List.replicate k u ++ List.replicate (n - k) (i64v 0)
theorem rep_length {n k : Nat} {u : Value} (h : k ≤ n) : (rep n k u).length = n := by simp [rep]; omega
theorem rep_splice {n k m : Nat} {u : Value} (h : k + m ≤ n) : splice (rep n k u) k (List.replicate m u) = rep n (k + m) u := by
  unfold splice rep
  rw [List.take_left' (by simp), List.length_replicate, List.drop_append, List.drop_replicate, List.drop_replicate, List.length_replicate, ← List.append_assoc, List.replicate_append_replicate, show k - (k + m) = 0 by omega, List.replicate_zero, List.nil_append, show n - k - (k + m - k) = n - (k + m) by omega]
theorem nils_splice {n : Nat} {u : Value} (_h : 1 ≤ n) : splice (nils n) 0 [u] = rep n 1 u := by
  unfold splice rep nils
  simp [List.drop_replicate]
theorem rep_full {n : Nat} {u : Value} : rep n n u = List.replicate n u := by simp [rep]
theorem rep_get {n k j : Nat} {u v : Value} {w : World} {g : Nat} {t : TypeId} (h : w.heap[g]? = some (.cells (rep n k u).toArray t (0, 0))) (hj : (List.replicate k u)[j]? = some v) : w.cell? ((⟨g, 0, none⟩ : Addr).add j) = some v := by
  have hl : j < k := by have := (List.getElem?_eq_some_iff.1 hj).1; simpa using this
  have hv : v = u := by simp [hl] at hj; exact hj.symm
  subst hv
  have : ((⟨g, 0, none⟩ : Addr).add j) = ⟨g, j, none⟩ := by simp [Addr.add]; intro h; exact h.symm
  rw [this]
  simp [World.cell?, h, rep, hl, List.getElem?_append_left]

theorem rep_get' {n k m j : Nat} {u v : Value} {w : World} {g : Nat} {t : TypeId} (h : w.heap[g]? = some (.cells (rep n k u).toArray t (0, 0))) (hm : m ≤ k) (hj : (List.replicate m u)[j]? = some v) : w.cell? ((⟨g, 0, none⟩ : Addr).add j) = some v := by
  have hl : j < m := by have := (List.getElem?_eq_some_iff.1 hj).1; simpa using this
  refine rep_get h ?_
  simp [hl] at hj
  simp [(by omega : j < k), hj]
theorem rep_fit {n k m : Nat} {u : Value} (hk : k ≤ n) (hm : k + m ≤ n) : k + (List.replicate m u).length ≤ (rep n k u).length := by
  rw [rep_length hk, List.length_replicate]; omega
theorem rep_one {m : Nat} {u : Value} (h : u.oneCell' = true) : ∀ v ∈ List.replicate m u, v.oneCell' = true := fun v hv => by rw [(List.mem_replicate.1 hv).2]; exact h
set_option maxRecDepth 20000 in
set_option maxHeartbeats 800000 in
theorem repeat_any (w : World) (ad : Addr) (c n : Nat) (u : Value) (hn1 : 1 ≤ n) (hn : n ≤ 4096) (hc : w.cell? ad = some u) (hu : u.oneCell' = true) :
    Calls Try.prog 97 #[.slice (some ad) 1 c, .int .i64 n] w (RepW w n u) := by
  have hmk := fun W => makeNils n hn W
  have hsl : (Try.prog.info? 3).map (·.size) = some 1 := by kernel_rfl
  have M1 := Lib.hid (mul1 n hn w)
  have HU := Lib.hid hu
  have HC := Lib.hid hc
  clear hu hc
  go_enter Try.func97, Try.ntmps97
  go_wp2_with fail
  refine M1.out.mono ?_
  rintro e w' ⟨rfl, rfl⟩
  go_wp2_with (with_reducible refine wpList_copy_splice rfl _ _ 22 22 rfl 3 Try.underlying22 (by kernel_rfl) _ (some ad) n n 1 c rfl rfl w.heap.size 0 (nils n) 3 ?hg [u] ?hn ?hpos ?hfit ?h1 w.heap.size w ?hbel ?hBg ?_)
  case hg => rw [heap_alloc_if, if_pos rfl]
  case hn => exact (Nat.min_eq_left hn1).symm
  case hpos =>
    intro j v hj
    have hj0 : j = 0 := by have := (List.getElem?_eq_some_iff.1 hj).1; simp at this; exact this
    subst hj0
    have hv : v = u := by simpa using hj.symm
    subst hv
    have ha : ad.add 0 = ad := addr_add_0 ad
    rw [ha, World.cell?_alloc_lt _ _ _ (lt_of_cell HC.out)]
    exact HC.out
  case hfit => simp [nils]; omega
  case h1 => intro v hv; simp at hv; subst hv; exact HU.out
  case hbel => exact (Below.refl _ _).alloc (by omega) _
  case hBg => omega
  intro w3 hk3 hb3
  rw [nils_splice hn1] at hk3
  go_wp2_with fail
  go_loopw [8] (fun i wr => ∃ k : Nat, 1 ≤ k ∧ k ≤ n ∧ i = .int .i64 k ∧ Hid (wr.heap[w.heap.size]? = some (.cells (rep n k u).toArray 3 (0, 0))) ∧ Hid (Below w.heap.size w wr)) (fun i _ => n - (intOf i).toNat)
  case atStart => exact ⟨1, Nat.le_refl _, hn1, rfl, hk3, hb3⟩
  case round =>
    obtain ⟨k, hk1, hk, rfl, HK, HB⟩ := hrel
    by_cases hlt : k < n
    · have hlt' : (k : Int) < (n : Int) := by omega
      have h0 : (0 : Int) ≤ (k : Int) := by omega
      have hne : ¬ n = k := by omega
      obtain ⟨m, HM, hm0, hm1, hm2⟩ : ∃ m, Hid ((List.replicate m u).length = Nat.min k (n - k)) ∧ 1 ≤ m ∧ m ≤ k ∧ k + m ≤ n := ⟨Nat.min k (n - k), List.length_replicate, by have : Nat.min k (n - k) = k ∨ Nat.min k (n - k) = n - k := by {show min k (n-k) = k ∨ min k (n-k) = n - k; omega}; omega, Nat.min_le_left _ _, by have := Nat.min_le_right k (n - k); have h : Nat.min k (n - k) ≤ n - k := this; omega⟩
      go_wp2_with fail
      go_region_law (refine step_copy_splice rfl (.tmp 41) (.tmp 44) 22 22 rfl 3 Try.underlying22 hsl (some ⟨w.heap.size, k, none⟩) (some ⟨w.heap.size, 0, none⟩) (n - k) (n - k) k n (by go_simp) (by go_simp) w.heap.size k (rep n k u) 3 (by exact HK.out) (List.replicate m u) (by exact HM.out) (by exact fun _ => ⟨rfl, _, rfl, fun j v hj => rep_get' HK.out hm1 hj⟩) (by exact rep_fit hk hm2) (by exact rep_one HU.out) w.heap.size w (by exact HB.out.drew) (Nat.le_refl _) ?_; intro w4 hg4 hb4)
      rw [rep_splice hm2] at hg4
      have hwr : IntKind.i64.wrap ((k : Int) + (m : Int)) = (k : Int) + (m : Int) := IntWalk.i64_in _ (by omega)
      simp only [List.getElem_toArray, List.getElem_cons_succ, List.getElem_cons_zero, Act.put, List.setIfInBounds_toArray, List.set_cons_succ, List.set_cons_zero, hwr]
      clear hwr
      go_wp2_with fail
      go_roundw
      case rel => exact ⟨k + m, by omega, hm2, by go_num, hg4, hb4⟩
      case measure => simp [intOf]; omega
    · go_wp2_with fail
      go_ret
      obtain rfl : k = n := by omega
      have := HK.out
      rw [rep_full] at this
      exact ⟨rfl, this, HB.out⟩
end Go.Proofs.Ythlnfjbedehjdaa
