import Derived.Test.YtjmafnkknohinaaT5
namespace Go.Proofs.Ytjmafnkknohinaa
open Go.RowKit Go.Shelf

def performD (ss : List (List UInt8)) (ps : List Wr) : List (List UInt8) := ps.foldl (fun s x => s.set x.pos.toNat x.data) ss
theorem performD_length (ss : List (List UInt8)) (ps : List Wr) : (performD ss ps).length = ss.length := by
  unfold performD
  induction ps generalizing ss with
  | nil => rfl
  | cons x r ih => rw [List.foldl_cons, ih]; simp
theorem performD_snoc (ss : List (List UInt8)) (ps : List Wr) (k : Nat) (h : k < ps.length) : performD ss (ps.take (k + 1)) = (performD ss (ps.take k)).set (ps[k]).pos.toNat (ps[k]).data := by
  unfold performD
  rw [List.take_succ_eq_append_getElem h, List.foldl_append]
  rfl

/-- the values read as the byte lists -/
def Good (w : World) (M : Nat → Prop) (vals : List Value) (ss : List (List UInt8)) : Prop := vals.length = ss.length ∧ ∀ i, i < ss.length → IsBytes w M (vals.getD i .nilIface) (ss.getD i [])
theorem Good.set {w : World} {M : Nat → Prop} {vals : List Value} {ss : List (List UInt8)} {i : Nat} {u : Value} {s : List UInt8} (h : Good w M vals ss) (hu : IsBytes w M u s) : Good w M (vals.set i u) (ss.set i s) := by
  refine ⟨by simpa using h.1, fun j hj => ?_⟩
  simp only [List.length_set] at hj
  have hv := h.1
  by_cases e : i = j
  · subst e
    simpa [List.getD_eq_getElem?_getD, List.getElem?_set, hj, hv] using hu
  · simpa [List.getD_eq_getElem?_getD, List.getElem?_set, e] using h.2 j hj
theorem Good.of_vs {w : World} {M : Nat → Prop} {vs : Nat → Value} {ss : List (List UInt8)} (h : ∀ i, i < ss.length → IsBytes w M (vs i) (ss.getD i [])) : Good w M (flat 1 ss.length (fun i _ => vs i)) ss := by
  refine ⟨by rw [flat_length, Nat.mul_one], fun i hi => ?_⟩
  have : (flat 1 ss.length (fun i _ => vs i)).getD i .nilIface = vs i := by
    simp [flat, List.getD_eq_getElem?_getD, hi]
  rw [this]
  exact h i hi
theorem own_cells {w : World} {base : Nat} {e : TypeId} {v : Value} {n : Nat} {xs : List Value} (h : w.ownsRow base e 1 v n xs) :
    ∃ A c, v = .slice A n c ∧ n ≤ c ∧ c ≤ 9223372036854775807 ∧ Cells w (fun b => base ≤ b) 1 A n (fun i _ => xs.getD i .nilIface) := by
  rcases h.2 with ⟨rfl, rfl⟩ | ⟨g, cap, cur, rfl, hg, hh, h1, h2, h3, h4⟩
  · exact ⟨none, 0, rfl, Nat.le_refl _, by omega, fun h => absurd h (by omega)⟩
  · refine ⟨_, cap, rfl, h1, by simpa [maxLen] using h2, fun hn => ⟨g, 0, rfl, hg, fun i j hi hj => ?_⟩⟩
    obtain rfl : j = 0 := by omega
    have := h.cellAt i (by omega)
    have hl := h.1
    simp only [Nat.zero_add, Nat.mul_one, Nat.add_zero]
    rw [this, List.getElem?_eq_getElem (by omega)]
    simp [List.getD_eq_getElem?_getD, (by omega : i < xs.length)]
def RetMat (w : World) (M : Nat → Prop) (ss : List (List UInt8)) (e : Ending) (w' : World) : Prop := ∃ v, e = .returned v ∧ IsMat w' (fun b => M b ∨ w.heap.size ≤ b) v ss ∧ Below w.heap.size w w'
theorem RetMat.of_own {w w' : World} {M : Nat → Prop} {v : Value} {n : Nat} {vals : List Value} {ss : List (List UInt8)} {e : TypeId} (hown : w'.ownsRow w.heap.size e 1 v n vals) (hn : n = ss.length) (hg : Good w M vals ss) (hb : Below w.heap.size w w') :
    RetMat w M ss (.returned v) w' := by
  subst hn
  obtain ⟨A, c, rfl, h1, h2, h3⟩ := own_cells hown
  exact ⟨_, rfl, ⟨A, c, rfl, h1, h2, _, h3.mono (fun b _ h => .inr h) (by omega), fun i hi => ((hg.2 i hi).below hb).mono fun b _ h => .inl h⟩, hb⟩

theorem one_of_bytes {w : World} {M : Nat → Prop} {v : Value} {bs : List UInt8} (h : IsBytes w M v bs) : v.oneCell' = true := by
  obtain ⟨A, c, rfl, _⟩ := h; rfl

set_option maxHeartbeats 800000 in
theorem perform_any (w : World) (M : Nat → Prop) (sA pA : Option Addr) (sc pc : Nat) (ss : List (List UInt8)) (ps : List Wr) (hs : ss.length ≤ 4096) (_hs1 : ss.length ≤ sc) (hsm : MatC w M sA ss)
    (hp : ps.length ≤ 9223372036854775807) (hpm : WrsC w M pA ps) (hok : ∀ (j : Nat) (h : j < ps.length), 0 ≤ (ps[j]).pos ∧ (ps[j]).pos < ss.length) :
    Calls Try.prog 39 #[.slice sA ss.length sc, .slice pA ps.length pc] w (RetMat w M (performD ss ps)) := by
  obtain ⟨vs, hc, hvs⟩ := hsm
  have hA : sA = none → ss.length = 0 := fun e => by
    rcases Nat.eq_zero_or_pos ss.length with h | h
    · exact h
    · obtain ⟨b, off, e', _⟩ := hc h; rw [e] at e'; cases e'
  have C := Lib.hid (cloneMat_any w M sA ss.length sc _ (by omega) hA hc (fun u hu => by
    obtain ⟨j, hj⟩ := List.getElem?_of_mem hu
    obtain ⟨hl, rfl⟩ := flat_get hj
    simp only [Nat.mul_one] at hl
    simp only [Nat.div_one]
    exact one_of_bytes (hvs j hl)))
  have HG := Lib.hid (Good.of_vs hvs)
  have HOK := Lib.hid hok
  clear hc hvs hA hok
  go_enter Try.func39, Try.ntmps39
  go_wp2_with fail
  refine C.out.mono ?_
  rintro e w1 ⟨v, rfl, hown, hb1⟩
  go_wp2_with fail
  go_loopw [12] (fun i wr => ∃ (k : Nat) (vals : List Value), k ≤ ps.length ∧ i = .int .i64 k ∧ wr.ownsRow w.heap.size 35 1 v ss.length vals ∧ Good w M vals (performD ss (ps.take k)) ∧ Below w.heap.size w wr) (fun i _ => ps.length - (intOf i).toNat)
  case atStart => exact ⟨0, _, Nat.zero_le _, rfl, hown, HG.out, hb1⟩
  case round =>
    obtain ⟨k, vals, hk, rfl, hown1, hgood, hbel⟩ := hrel
    clear hown hb1
    by_cases hlt : k < ps.length
    · obtain ⟨b, off, bA, bc, rfl, hbl, hck, hck1, hd1, hd2, hd3⟩ := hpm.at_ hbel hlt
      obtain ⟨q1, q2⟩ := HOK.out k hlt
      obtain ⟨g, cap, rfl, hgl, hgs⟩ := hown1.form (by omega)
      have hvl : (ps[k]).pos.toNat < vals.length := by have := hown1.1; omega
      obtain ⟨x, hx⟩ : ∃ x, vals[(ps[k]).pos.toNat]? = some x := ⟨vals[(ps[k]).pos.toNat], List.getElem?_eq_getElem hvl⟩
      have hcl := (hown1.cellAt (ps[k]).pos.toNat (by omega)).trans hx
      have hfr := hown1.frozenAt (ps[k]).pos.toNat
      have hsz := hbel.size
      have hnn : ((ps[k]).pos.toNat : Int) = (ps[k]).pos := by omega
      have HO := Lib.hid hown1
      have HG1 := Lib.hid hgood
      have HB := Lib.hid hbel
      have HN := Lib.hid hnn
      clear hown1 hgood hbel hx hnn
      go_wp2_with fail
      go_roundw
      case rel =>
        refine ⟨k + 1, vals.set (ps[k]).pos.toNat (.slice bA (ps[k]).data.length bc), by omega, by go_num, ?_, ?_, ?_⟩
        · exact ((HO.out.stored _ _).1).alloc _
        · rw [performD_snoc _ _ _ hlt]
          exact HG1.out.set ⟨bA, bc, rfl, hd1, hd2, hd3⟩
        · exact (HB.out.setCell (p := ⟨g, _, none⟩) hgl _).alloc (by simp [World.setCell]; omega) _
      case measure => simp [intOf]; omega
    · go_wp2_with fail
      go_ret
      obtain rfl : k = ps.length := by omega
      rw [List.take_length] at hgood
      exact RetMat.of_own hown1 (performD_length _ _).symm hgood hbel

def syncD (d : DiskD) : DiskD × Int :=
  if runsB d then
    if 0 ≤ d.left ∧ d.left < d.pending.length then (⟨performD d.sectors (d.pending.take d.left.toNat), [], 0, true⟩, 340)
    else (⟨performD d.sectors d.pending, [], if 0 ≤ d.left then d.left - d.pending.length else d.left, false⟩, 0)
  else (zeroD, 340)
/-- new memory and what came in -/
def New (M : Nat → Prop) (w : World) : Nat → Prop := fun b => M b ∨ w.heap.size ≤ b
theorem runs_parts {d : DiskD} (h : runsB d = true) : d.stopped = false ∧ 1 ≤ d.sectors.length ∧ d.sectors.length ≤ 4096 ∧ d.pending.length ≤ 4096 ∧ -1 ≤ d.left ∧ d.left ≤ 65536 ∧
    (∀ (j : Nat) (h : j < d.pending.length), 0 ≤ (d.pending[j]).pos ∧ (d.pending[j]).pos < d.sectors.length) := by
  simp only [runsB, okB, headOk, Bool.and_eq_true, decide_eq_true_eq, List.all_eq_true, Bool.not_eq_true'] at h
  obtain ⟨⟨⟨⟨⟨⟨⟨h1, h2⟩, h3⟩, h4⟩, h5⟩, h6⟩, h7⟩, h8⟩ := h
  refine ⟨h8, h1, h2, h3, h4, h5, fun j hj => ?_⟩
  have := h7 _ (List.getElem_mem hj)
  simp only [penOk, Bool.and_eq_true, decide_eq_true_eq] at this
  exact this.1
theorem WrsC.take {w : World} {M : Nat → Prop} {A : Option Addr} {ps : List Wr} (h : WrsC w M A ps) (k : Nat) : WrsC w M A (ps.take k) := by
  obtain ⟨vs, h1, h2⟩ := h
  refine ⟨vs, fun hn => ?_, fun i hi => ?_⟩
  · have hl : (ps.take k).length ≤ ps.length := List.length_take_le' _ _
    obtain ⟨b, off, e, hm, hc⟩ := h1 (by omega)
    refine ⟨b, off, e, hm, fun i j hi hj => ?_⟩
    rw [hc i j (by omega) hj]
    have : i < k := by simp at hi; omega
    simp [List.getD_eq_getElem?_getD, this]
  · have hl : (ps.take k).length ≤ ps.length := List.length_take_le' _ _
    have : i < k := by simp at hi; omega
    have := h2 i (by omega)
    simpa [List.getD_eq_getElem?_getD, List.getElem?_take, ‹i < k›] using this
end Go.Proofs.Ytjmafnkknohinaa
