import Derived.Lib.Hide
/- The specification of chapter 35 in plain Lean: checksum, numbers of bytes, sectors, records. -/
namespace Go.Proofs.Ytocjhepiooljpaa

/-- a bit of the checksum -/
def bitS (n : Nat) : Nat := if n % 2 = 1 then (n / 2) ^^^ 3988292384 else n / 2
def bitsS : Nat → Nat → Nat
  | 0, n => n
  | k + 1, n => bitS (bitsS k n)
def crcB (n : Nat) (c : UInt8) : Nat := bitsS 8 (n ^^^ c.toNat)
def crcL (n : Nat) (bs : List UInt8) : Nat := bs.foldl crcB n
/-- the checksum -/
def crc (bs : List UInt8) : Nat := crcL 4294967295 bs ^^^ 4294967295
theorem byte_lt (c : UInt8) : c.toNat < 256 := UInt8.toNat_lt c
theorem xor_lt32 {a b : Nat} (ha : a < 4294967296) (hb : b < 4294967296) : a ^^^ b < 4294967296 := Nat.xor_lt_two_pow (n := 32) ha hb
theorem bitS_lt {n : Nat} (h : n < 4294967296) : bitS n < 4294967296 := by
  unfold bitS; split
  · exact xor_lt32 (by omega) (by omega)
  · omega
theorem bitsS_lt {n : Nat} (h : n < 4294967296) : ∀ k, bitsS k n < 4294967296
  | 0 => h
  | k + 1 => bitS_lt (bitsS_lt h k)
theorem crcB_lt {n : Nat} (h : n < 4294967296) (c : UInt8) : crcB n c < 4294967296 := bitsS_lt (xor_lt32 h (by have := byte_lt c; omega)) 8
theorem crcL_lt {n : Nat} (h : n < 4294967296) (bs : List UInt8) : crcL n bs < 4294967296 := by
  induction bs generalizing n with
  | nil => exact h
  | cons c r ih => exact ih (crcB_lt h c)
theorem crc_lt (bs : List UInt8) : crc bs < 4294967296 := xor_lt32 (crcL_lt (by omega) bs) (by omega)
theorem crcL_append (n : Nat) (a b : List UInt8) : crcL n (a ++ b) = crcL (crcL n a) b := by unfold crcL; rw [List.foldl_append]
theorem crcL_snoc (n : Nat) (bs : List UInt8) (k : Nat) (h : k < bs.length) : crcL n (bs.take (k + 1)) = crcB (crcL n (bs.take k)) bs[k] := by
  rw [List.take_add_one, List.getElem?_eq_getElem h, Option.toList_some, crcL_append]; rfl

/-- the number that bytes represent -/
def num (bs : List UInt8) : Nat := bs.foldl (fun n c => 256 * n + c.toNat) 0
/-- k bytes of a number -/
def numl (n : Nat) : Nat → List UInt8
  | 0 => []
  | k + 1 => numl (n / 256) k ++ [UInt8.ofNat (n % 256)]
theorem num_snoc (bs : List UInt8) (c : UInt8) : num (bs ++ [c]) = 256 * num bs + c.toNat := by unfold num; rw [List.foldl_append]; rfl
theorem numl_length (n k : Nat) : (numl n k).length = k := by
  induction k generalizing n with
  | zero => rfl
  | succ k ih => unfold numl; rw [List.length_append, ih]; rfl
theorem num_numl (n k : Nat) : num (numl n k) = n % 256 ^ k := by
  induction k generalizing n with
  | zero => simp [numl, num, Nat.mod_one]
  | succ k ih =>
    unfold numl
    have h8 : (UInt8.ofNat (n % 256)).toNat = n % 256 := by rw [UInt8.toNat_ofNat']; omega
    rw [num_snoc, ih, h8, Nat.pow_succ, Nat.mul_comm (256 ^ k) 256, Nat.mod_mul, Nat.add_comm]
theorem num_lt (bs : List UInt8) : num bs < 256 ^ bs.length := by
  obtain ⟨r, rfl⟩ : ∃ r : List UInt8, bs = r.reverse := ⟨bs.reverse, by simp⟩
  induction r with
  | nil => simp [num]
  | cons c r ih =>
    rw [List.reverse_cons, num_snoc, List.length_append, List.length_singleton, Nat.pow_succ]
    have := byte_lt c
    omega
theorem numl_num (bs : List UInt8) : numl (num bs) bs.length = bs := by
  obtain ⟨r, rfl⟩ : ∃ r : List UInt8, bs = r.reverse := ⟨bs.reverse, by simp⟩
  induction r with
  | nil => rfl
  | cons c r ih =>
    rw [List.reverse_cons, num_snoc, List.length_append, List.length_singleton]
    unfold numl
    have := byte_lt c
    rw [show (256 * num r.reverse + c.toNat) / 256 = num r.reverse by omega, show (256 * num r.reverse + c.toNat) % 256 = c.toNat by omega, ih, UInt8.ofNat_toNat]
theorem numl_of {n k : Nat} {bs : List UInt8} (hk : bs.length = k) (h : num bs = n) : bs = numl n k := by rw [← h, ← hk, numl_num]
theorem num_take_lt (bs : List UInt8) (k : Nat) : num (bs.take k) < 256 ^ k := Nat.lt_of_lt_of_le (num_lt _) (Nat.pow_le_pow_right (by omega) (by rw [List.length_take]; omega))

/-- what stands behind the checksum -/
def bodyS (k : Nat) (kind : UInt8) (p : List UInt8) : List UInt8 := numl k 2 ++ [kind, UInt8.ofNat p.length] ++ p ++ List.replicate (116 - p.length) 0
/-- a sector -/
def secOf (g k : Nat) (kind : UInt8) (p : List UInt8) : List UInt8 := numl g 4 ++ numl (crc (numl g 4 ++ bodyS k kind p)) 4 ++ bodyS k kind p
theorem bodyS_length {k : Nat} {kind : UInt8} {p : List UInt8} (h : p.length ≤ 116) : (bodyS k kind p).length = 120 := by
  simp [bodyS, numl_length]; omega
theorem secOf_length {g k : Nat} {kind : UInt8} {p : List UInt8} (h : p.length ≤ 116) : (secOf g k kind p).length = 128 := by
  simp [secOf, numl_length, bodyS_length h]
theorem numl_mod (n k : Nat) : numl (n % 256 ^ k) k = numl n k := by
  rw [← num_numl, numl_of (bs := numl n k) (numl_length n k) rfl, num_numl, num_numl]
  simp

def kindS (s : List UInt8) : Nat := (s.getD 10 0).toNat
def lenS (s : List UInt8) : Nat := (s.getD 11 0).toNat
def genS (s : List UInt8) : Nat := num (s.take 4)
/-- the bytes of a record that a sector holds -/
def dataS (s : List UInt8) : List UInt8 := (s.drop 12).take (lenS s)
/-- has a sector the required form, with the number k? -/
def goodB (s : List UInt8) (k : Nat) : Bool :=
  decide (genS s ≠ 0) && decide (num ((s.drop 4).take 4) = crc (s.take 4 ++ s.drop 8)) && decide (num ((s.drop 8).take 2) = k) && decide (kindS s ≤ 3) && decide (lenS s ≤ 116) &&
    (decide (2 ≤ kindS s) || decide (lenS s = 116)) && (decide (kindS s % 2 = 1) || decide (lenS s ≠ 0)) && (s.drop (12 + lenS s)).all (fun c => c == 0)
/-- may a sector lie at position n of a record that begins at a with generation g? -/
def fitS (a g n : Nat) (s : List UInt8) : Bool := goodB s n && (decide (kindS s % 2 = 1) == decide (n = a)) && decide (genS s = g)
/-- the record that begins at a with generation g, from position n on: its bytes, and the position behind it -/
def recGo (a g : Nat) : Nat → List (List UInt8) → Option (List UInt8 × Nat)
  | _, [] => none
  | n, s :: r => if fitS a g n s then (if 2 ≤ kindS s then some (dataS s, n + 1) else (recGo a g (n + 1) r).map fun x => (dataS s ++ x.1, x.2)) else none
/-- the record that begins at a -/
def recAt (l : List (List UInt8)) (a : Nat) : Option (List UInt8 × Nat) := recGo a (genS (l.getD a [])) a (l.drop a)
def recsGo (l : List (List UInt8)) : Nat → Nat → Nat → List (List UInt8)
  | _, _, 0 => []
  | a, last, f + 1 => match recAt l a with
    | none => []
    | some x => if genS (l.getD a []) < last then [] else x.1 :: recsGo l x.2 (genS (l.getD a [])) f
/-- the records from position a on -/
def recsFrom (l : List (List UInt8)) (a last : Nat) : List (List UInt8) := recsGo l a last (l.length + 1)
def recs (l : List (List UInt8)) : List (List UInt8) := recsFrom l 0 0
theorem recGo_pos {a g n : Nat} {ss : List (List UInt8)} {x : List UInt8 × Nat} (h : recGo a g n ss = some x) : n < x.2 ∧ x.2 ≤ n + ss.length := by
  induction ss generalizing n x with
  | nil => cases h
  | cons s r ih =>
    unfold recGo at h
    split at h
    · split at h
      · injection h with h; subst h; simp
      · rw [Option.map_eq_some_iff] at h
        obtain ⟨y, hy, rfl⟩ := h
        have := ih hy
        simp only [List.length_cons]
        omega
    · cases h
theorem recAt_pos {l : List (List UInt8)} {a : Nat} {x : List UInt8 × Nat} (h : recAt l a = some x) : a < x.2 ∧ x.2 ≤ l.length := by
  have h1 := recGo_pos h
  have h2 : a < l.length := by
    rcases Nat.lt_or_ge a l.length with h2 | h2
    · exact h2
    · unfold recAt at h; rw [List.drop_eq_nil_of_le h2] at h; cases h
  rw [List.length_drop] at h1
  omega
theorem recsGo_fuel {l : List (List UInt8)} : ∀ {f f' a last : Nat}, l.length < a + f → l.length < a + f' → recsGo l a last f = recsGo l a last f'
  | 0, 0, _, _, _, _ => rfl
  | 0, f' + 1, a, last, h, _ => by
    unfold recsGo
    cases e : recAt l a with
    | none => rfl
    | some x => have := recAt_pos e; omega
  | f + 1, 0, a, last, _, h => by
    unfold recsGo
    cases e : recAt l a with
    | none => rfl
    | some x => have := recAt_pos e; omega
  | f + 1, f' + 1, a, last, h, h' => by
    unfold recsGo
    cases e : recAt l a with
    | none => rfl
    | some x =>
      have := recAt_pos e
      dsimp only
      rw [recsGo_fuel (f := f) (f' := f') (by omega) (by omega)]
theorem recsFrom_none {l : List (List UInt8)} {a last : Nat} (h : recAt l a = none) : recsFrom l a last = [] := by
  unfold recsFrom recsGo; rw [h]
theorem recsFrom_old {l : List (List UInt8)} {a last : Nat} (h : genS (l.getD a []) < last) : recsFrom l a last = [] := by
  unfold recsFrom recsGo; cases recAt l a
  · rfl
  · exact if_pos h
theorem recsFrom_some {l : List (List UInt8)} {a last : Nat} {x : List UInt8 × Nat} (h : recAt l a = some x) (hl : last ≤ genS (l.getD a [])) : recsFrom l a last = x.1 :: recsFrom l x.2 (genS (l.getD a [])) := by
  have := recAt_pos h
  conv => lhs; unfold recsFrom recsGo
  rw [h]
  dsimp only
  rw [if_neg (by omega)]
  unfold recsFrom
  rw [recsGo_fuel (f := l.length) (f' := l.length + 1) (by omega) (by omega)]

/-- the sectors that a record of n bytes occupies -/
def secs (n : Nat) : Nat := max 1 ((n + 115) / 116)
def used (rs : List (List UInt8)) : Nat := (rs.map fun b => secs b.length).sum
theorem secs_pos (n : Nat) : 1 ≤ secs n := by unfold secs; omega
theorem secs_le (n : Nat) : secs n ≤ n + 1 := by unfold secs; omega
theorem used_nil : used [] = 0 := rfl
theorem used_cons (b : List UInt8) (rs : List (List UInt8)) : used (b :: rs) = secs b.length + used rs := rfl
theorem used_append (a b : List (List UInt8)) : used (a ++ b) = used a + used b := by unfold used; rw [List.map_append, List.sum_append]
end Go.Proofs.Ytocjhepiooljpaa
/- Plain laws of sectors: what is written is good, and what is good was written so. -/
namespace Go.Proofs.Ytocjhepiooljpaa

theorem body_parts (k : Nat) (kind : UInt8) (p : List UInt8) : (bodyS k kind p).take 2 = numl k 2 ∧ (bodyS k kind p).getD 2 0 = kind ∧ (bodyS k kind p).getD 3 0 = UInt8.ofNat p.length ∧ (bodyS k kind p).drop 4 = p ++ List.replicate (116 - p.length) 0 := by
  obtain ⟨x, y, e⟩ : ∃ x y, numl k 2 = [x, y] := by
    have h := numl_length k 2
    match numl k 2, h with
    | [x, y], _ => exact ⟨x, y, rfl⟩
  unfold bodyS
  rw [e]
  exact ⟨rfl, rfl, rfl, rfl⟩
theorem sec_parts (g k : Nat) (kind : UInt8) (p : List UInt8) : (secOf g k kind p).take 4 = numl g 4 ∧ ((secOf g k kind p).drop 4).take 4 = numl (crc (numl g 4 ++ bodyS k kind p)) 4 ∧ (secOf g k kind p).drop 8 = bodyS k kind p := by
  unfold secOf
  have h1 := numl_length g 4
  have h2 := numl_length (crc (numl g 4 ++ bodyS k kind p)) 4
  refine ⟨?_, ?_, ?_⟩
  · rw [List.append_assoc, List.take_append_of_le_length (by omega), List.take_of_length_le (by omega)]
  · rw [List.append_assoc, List.drop_append_of_le_length (by omega), List.drop_eq_nil_of_le (by omega), List.nil_append, List.take_append_of_le_length (by omega), List.take_of_length_le (by omega)]
  · rw [List.drop_append_of_le_length (by rw [List.length_append]; omega), List.drop_eq_nil_of_le (by rw [List.length_append]; omega), List.nil_append]
theorem getD_drop {s : List UInt8} {i j : Nat} : (s.drop i).getD j 0 = s.getD (i + j) 0 := by
  rw [List.getD_eq_getElem?_getD, List.getD_eq_getElem?_getD, List.getElem?_drop]
theorem sec_kind (g k : Nat) (kind : UInt8) (p : List UInt8) : (secOf g k kind p).getD 10 0 = kind := by
  have h := (body_parts k kind p).2.1
  rw [← (sec_parts g k kind p).2.2, getD_drop] at h
  exact h
theorem sec_len (g k : Nat) (kind : UInt8) (p : List UInt8) : (secOf g k kind p).getD 11 0 = UInt8.ofNat p.length := by
  have h := (body_parts k kind p).2.2.1
  rw [← (sec_parts g k kind p).2.2, getD_drop] at h
  exact h
theorem sec_lenS {g k : Nat} {kind : UInt8} {p : List UInt8} (h : p.length ≤ 116) : lenS (secOf g k kind p) = p.length := by
  unfold lenS; rw [sec_len, UInt8.toNat_ofNat']; omega
theorem sec_drop (g k : Nat) (kind : UInt8) (p : List UInt8) : (secOf g k kind p).drop 12 = p ++ List.replicate (116 - p.length) 0 := by
  have h := (body_parts k kind p).2.2.2
  rw [← (sec_parts g k kind p).2.2, List.drop_drop] at h
  exact h
theorem sec_data {g k : Nat} {kind : UInt8} {p : List UInt8} (h : p.length ≤ 116) : dataS (secOf g k kind p) = p := by
  unfold dataS; rw [sec_lenS h, sec_drop, List.take_append_of_le_length (by omega), List.take_of_length_le (by omega)]
theorem sec_gen {g k : Nat} {kind : UInt8} {p : List UInt8} (h : g < 4294967296) : genS (secOf g k kind p) = g := by
  unfold genS; rw [(sec_parts g k kind p).1, num_numl]; exact Nat.mod_eq_of_lt h
theorem sec_kindS (g k : Nat) (kind : UInt8) (p : List UInt8) : kindS (secOf g k kind p) = kind.toNat := by unfold kindS; rw [sec_kind]
/-- the conditions on a sector's kind and length -/
def formB (s : List UInt8) : Bool := decide (kindS s ≤ 3) && decide (lenS s ≤ 116) && (decide (2 ≤ kindS s) || decide (lenS s = 116)) && (decide (kindS s % 2 = 1) || decide (lenS s ≠ 0))
theorem good_form {s : List UInt8} {k : Nat} (h : goodB s k = true) : formB s = true ∧ genS s ≠ 0 := by
  unfold goodB at h
  unfold formB
  simp only [Bool.and_eq_true, decide_eq_true_eq] at h ⊢
  obtain ⟨⟨⟨⟨⟨⟨⟨h1, h2⟩, h3⟩, h4⟩, h5⟩, h6⟩, h7⟩, h8⟩ := h
  exact ⟨⟨⟨⟨h4, h5⟩, h6⟩, h7⟩, h1⟩
theorem good_sec {g k : Nat} {kind : UInt8} {p : List UInt8} (hg : 0 < g) (hg2 : g < 4294967296) (hk : k < 65536) (hp : p.length ≤ 116) (hf : formB (secOf g k kind p) = true) : goodB (secOf g k kind p) k = true := by
  unfold formB at hf
  unfold goodB
  simp only [Bool.and_eq_true, decide_eq_true_eq] at hf ⊢
  obtain ⟨⟨⟨h4, h5⟩, h6⟩, h7⟩ := hf
  obtain ⟨p1, p2, p3⟩ := sec_parts g k kind p
  refine ⟨⟨⟨⟨⟨⟨⟨?_, ?_⟩, ?_⟩, h4⟩, h5⟩, h6⟩, h7⟩, ?_⟩
  · rw [sec_gen hg2]; omega
  · rw [p2, p1, p3, num_numl]; exact Nat.mod_eq_of_lt (crc_lt _)
  · rw [p3, (body_parts k kind p).1, num_numl]; exact Nat.mod_eq_of_lt hk
  · rw [sec_lenS hp, ← List.drop_drop, sec_drop, List.drop_append_of_le_length (Nat.le_refl _), List.drop_of_length_le (Nat.le_refl _), List.nil_append, List.all_eq_true]
    intro x hx
    rw [List.mem_replicate] at hx
    rw [hx.2]; rfl
theorem split_at {s : List UInt8} {i : Nat} (h : i < s.length) : s.drop i = s.getD i 0 :: s.drop (i + 1) := by
  rw [List.drop_eq_getElem_cons h, List.getD_eq_getElem?_getD, List.getElem?_eq_getElem h, Option.getD_some]
theorem all_zero {l : List UInt8} (h : l.all (fun c => c == 0) = true) : l = List.replicate l.length 0 := by
  rw [List.all_eq_true] at h
  exact List.eq_replicate_iff.2 ⟨rfl, fun x hx => by simpa using h x hx⟩
theorem dataS_length {s : List UInt8} (hs : s.length = 128) (h : lenS s ≤ 116) : (dataS s).length = lenS s := by
  unfold dataS; rw [List.length_take, List.length_drop]; omega
theorem good_is {s : List UInt8} {k : Nat} (hs : s.length = 128) (h : goodB s k = true) : s = secOf (genS s) k (s.getD 10 0) (dataS s) := by
  unfold goodB at h
  simp only [Bool.and_eq_true, decide_eq_true_eq] at h
  obtain ⟨⟨⟨⟨⟨⟨⟨-, h2⟩, h3⟩, -⟩, h5⟩, -⟩, -⟩, h8⟩ := h
  have e1 : s.take 4 = numl (genS s) 4 := numl_of (by rw [List.length_take]; omega) rfl
  have e2 : (s.drop 4).take 4 = numl (crc (s.take 4 ++ s.drop 8)) 4 := numl_of (by rw [List.length_take, List.length_drop]; omega) h2
  have e3 : (s.drop 8).take 2 = numl k 2 := numl_of (by rw [List.length_take, List.length_drop]; omega) h3
  have e4 : s.drop 8 = bodyS k (s.getD 10 0) (dataS s) := by
    unfold bodyS
    rw [← e3, dataS_length hs h5]
    have a1 : s.drop 8 = (s.drop 8).take 2 ++ s.drop 10 := by
      have := (List.take_append_drop 2 (s.drop 8)).symm
      rwa [List.drop_drop] at this
    have a2 : s.drop 12 = dataS s ++ s.drop (12 + lenS s) := by
      have := (List.take_append_drop (lenS s) (s.drop 12)).symm
      rwa [List.drop_drop] at this
    have a3 := all_zero h8
    rw [List.length_drop, hs, show 128 - (12 + lenS s) = 116 - lenS s by omega] at a3
    have a4 : UInt8.ofNat (lenS s) = s.getD 11 0 := by unfold lenS; rw [UInt8.ofNat_toNat]
    conv => lhs; rw [a1, split_at (by omega : 10 < s.length), split_at (by omega : 11 < s.length), a2, a3]
    rw [a4, List.append_assoc, List.append_assoc]
    rfl
  have e5 : s = s.take 4 ++ (s.drop 4).take 4 ++ s.drop 8 := by
    have := (List.take_append_drop 4 s).symm
    have b := (List.take_append_drop 4 (s.drop 4)).symm
    rw [List.drop_drop] at b
    rw [b, ← List.append_assoc] at this
    exact this
  conv => lhs; rw [e5, e2, e1, e4]
  rfl
/-- the test of package wal -/
theorem good_iff {s : List UInt8} {k : Nat} (hs : s.length = 128) (hk : k < 65536) : goodB s k = (formB s && decide (0 < genS s) && decide (s = secOf (genS s) k (s.getD 10 0) (dataS s))) := by
  rw [Bool.eq_iff_iff]
  simp only [Bool.and_eq_true, decide_eq_true_eq]
  constructor
  · intro h
    have := good_form h
    exact ⟨⟨this.1, by omega⟩, good_is hs h⟩
  · rintro ⟨⟨h1, h2⟩, h3⟩
    have hl : lenS s ≤ 116 := by
      unfold formB at h1
      simp only [Bool.and_eq_true, decide_eq_true_eq] at h1
      exact h1.1.1.2
    have hg : genS s < 4294967296 := num_take_lt s 4
    have hd := dataS_length hs hl
    rw [h3] at h1
    have := good_sec h2 hg hk (by omega) h1
    rwa [← h3] at this

/-- which part of a record lies in its sector k of n -/
def kindOf (k n : Nat) : UInt8 := (if k = 0 then 1 else 0) + (if k + 1 = n then 2 else 0)
theorem kindOf_nat (k n : Nat) : (kindOf k n).toNat = (if k = 0 then 1 else 0) + (if k + 1 = n then 2 else 0) := by
  unfold kindOf
  split <;> split <;> rfl
def pieceOf (b : List UInt8) (k : Nat) : List UInt8 := (b.drop (116 * k)).take 116
theorem pieceOf_le (b : List UInt8) (k : Nat) : (pieceOf b k).length ≤ 116 := by unfold pieceOf; rw [List.length_take]; omega
theorem pieceOf_full {b : List UInt8} {k : Nat} (h : k + 1 < secs b.length) : (pieceOf b k).length = 116 := by
  unfold secs at h
  unfold pieceOf; rw [List.length_take, List.length_drop]; omega
theorem pieceOf_last {b : List UInt8} {k : Nat} (h : k + 1 = secs b.length) : pieceOf b k = b.drop (116 * k) := by
  unfold secs at h
  unfold pieceOf; rw [List.take_of_length_le]; rw [List.length_drop]; omega
theorem pieceOf_ne {b : List UInt8} {k : Nat} (h : k < secs b.length) (h0 : k ≠ 0) : (pieceOf b k).length ≠ 0 := by
  unfold secs at h
  unfold pieceOf; rw [List.length_take, List.length_drop]; omega
/-- sector k of a record that begins at a -/
def secK (g a : Nat) (b : List UInt8) (k : Nat) : List UInt8 := secOf g (a + k) (kindOf k (secs b.length)) (pieceOf b k)
/-- the sectors of a record that begins at a -/
def recW (g a : Nat) (b : List UInt8) : List (List UInt8) := (List.range (secs b.length)).map (secK g a b)
theorem recW_length (g a : Nat) (b : List UInt8) : (recW g a b).length = secs b.length := by unfold recW; rw [List.length_map, List.length_range]
/-- the sectors of records from a on -/
def recsW (g : Nat) : Nat → List (List UInt8) → List (List UInt8)
  | _, [] => []
  | a, b :: r => recW g a b ++ recsW g (a + secs b.length) r
theorem recsW_length (g a : Nat) (rs : List (List UInt8)) : (recsW g a rs).length = used rs := by
  induction rs generalizing a with
  | nil => rfl
  | cons b r ih => unfold recsW; rw [List.length_append, recW_length, ih, used_cons]
theorem secK_length (g a : Nat) (b : List UInt8) (k : Nat) : (secK g a b k).length = 128 := secOf_length (pieceOf_le b k)
theorem secK_fit {g a : Nat} {b : List UInt8} {k : Nat} (hg : 0 < g) (hg2 : g < 4294967296) (hk : k < secs b.length) (ha : a + k < 65536) : fitS a g (a + k) (secK g a b k) = true := by
  have h1 := pieceOf_le b k
  have h2 := kindOf_nat k (secs b.length)
  unfold fitS secK
  rw [sec_gen hg2, sec_kindS, h2, good_sec hg hg2 ha h1]
  · simp only [Bool.true_and, decide_true, Bool.and_true, beq_iff_eq]
    rw [decide_eq_decide]
    split <;> split <;> omega
  · unfold formB
    rw [sec_lenS h1, sec_kindS, h2]
    simp only [Bool.and_eq_true, Bool.or_eq_true, decide_eq_true_eq]
    have h3 : k + 1 < secs b.length → (pieceOf b k).length = 116 := pieceOf_full
    have h4 : k ≠ 0 → (pieceOf b k).length ≠ 0 := pieceOf_ne hk
    refine ⟨⟨⟨?_, h1⟩, ?_⟩, ?_⟩
    · split <;> split <;> omega
    · by_cases e : k + 1 = secs b.length
      · left; rw [if_pos e]; omega
      · right; exact h3 (by omega)
    · by_cases e : k = 0
      · left; rw [if_pos e]; split <;> rfl
      · right; exact h4 e
theorem secK_ends {g a : Nat} {b : List UInt8} {k : Nat} : decide (2 ≤ kindS (secK g a b k)) = decide (k + 1 = secs b.length) := by
  unfold secK
  rw [sec_kindS, kindOf_nat, decide_eq_decide]
  split <;> split <;> omega
theorem secK_data {g a : Nat} {b : List UInt8} {k : Nat} : dataS (secK g a b k) = pieceOf b k := sec_data (pieceOf_le b k)
theorem secK_gen {g a : Nat} {b : List UInt8} {k : Nat} (hg : g < 4294967296) : genS (secK g a b k) = g := sec_gen hg
end Go.Proofs.Ytocjhepiooljpaa
/- Plain laws of records on sectors. -/
namespace Go.Proofs.Ytocjhepiooljpaa

theorem recGo_one {a g n : Nat} {s : List UInt8} {r : List (List UInt8)} (h : fitS a g n s = true) : recGo a g n (s :: r) = if 2 ≤ kindS s then some (dataS s, n + 1) else (recGo a g (n + 1) r).map fun x => (dataS s ++ x.1, x.2) := by
  conv => lhs; unfold recGo
  rw [if_pos h]
theorem recGo_bad {a g n : Nat} {s : List UInt8} {r : List (List UInt8)} (h : fitS a g n s = false) : recGo a g n (s :: r) = none := by
  unfold recGo
  rw [if_neg (by rw [h]; simp)]
theorem recW_drop {g a k : Nat} {b : List UInt8} (h : k < secs b.length) : (recW g a b).drop k = secK g a b k :: (recW g a b).drop (k + 1) := by
  rw [List.drop_eq_getElem_cons (by rw [recW_length]; exact h)]
  unfold recW
  simp
theorem part_join (b : List UInt8) (i m : Nat) (h : i < m) : pieceOf b i ++ (b.drop (116 * (i + 1))).take (116 * (m - (i + 1))) = (b.drop (116 * i)).take (116 * (m - i)) := by
  unfold pieceOf
  rw [show 116 * (m - i) = 116 + 116 * (m - (i + 1)) by omega, List.take_add, List.drop_drop, show 116 * i + 116 = 116 * (i + 1) by omega]
theorem recsW_cons (g a : Nat) (b : List UInt8) (r : List (List UInt8)) : recsW g a (b :: r) = recW g a b ++ recsW g (a + secs b.length) r := rfl
/-- the sectors of a record up to its sector m, something behind them -/
theorem recGo_part {g a m : Nat} {b : List UInt8} (hg : 0 < g) (hg2 : g < 4294967296) (hm : m < secs b.length) (ha : a + secs b.length ≤ 65536) (rest : List (List UInt8)) : ∀ j i, i + j = m →
    recGo a g (a + i) (((recW g a b).take m).drop i ++ rest) = (recGo a g (a + m) rest).map fun x => ((b.drop (116 * i)).take (116 * (m - i)) ++ x.1, x.2)
  | 0, i, e => by
    obtain rfl : i = m := by omega
    rw [List.drop_of_length_le (by rw [List.length_take]; omega), List.nil_append, Nat.sub_self, Nat.mul_zero]
    simp
  | j + 1, i, e => by
    have h1 : ((recW g a b).take m).drop i = secK g a b i :: ((recW g a b).take m).drop (i + 1) := by
      rw [List.drop_take, recW_drop (by omega), show m - i = (m - (i + 1)) + 1 by omega, List.take_succ_cons, List.drop_take]
    rw [h1, List.cons_append, recGo_one (secK_fit hg hg2 (by omega) (by omega)), secK_data, if_neg (by
      have : decide (2 ≤ kindS (secK g a b i)) = decide (i + 1 = secs b.length) := secK_ends
      rw [decide_eq_decide] at this
      omega), show a + i + 1 = a + (i + 1) by omega, recGo_part hg hg2 hm ha rest j (i + 1) (by omega), Option.map_map]
    congr 1
    funext x
    show (pieceOf b i ++ (_ ++ x.1), x.2) = _
    rw [← List.append_assoc, part_join b i m (by omega)]
theorem recGo_full {g a : Nat} {b : List UInt8} (hg : 0 < g) (hg2 : g < 4294967296) (ha : a + secs b.length ≤ 65536) (rest : List (List UInt8)) : recGo a g a (recW g a b ++ rest) = some (b, a + secs b.length) := by
  have hp := secs_pos b.length
  obtain ⟨m, hm⟩ : ∃ m, secs b.length = m + 1 := ⟨secs b.length - 1, by omega⟩
  have h1 : recW g a b = ((recW g a b).take m).drop 0 ++ [secK g a b m] := by
    rw [List.drop_zero]
    conv => lhs; rw [← List.take_append_drop m (recW g a b), recW_drop (by omega), List.drop_of_length_le (by rw [recW_length]; omega)]
  have h2 := recGo_part hg hg2 (by omega : m < secs b.length) ha (secK g a b m :: rest) m 0 (by omega)
  rw [h1, List.append_assoc, List.singleton_append]
  rw [Nat.add_zero] at h2
  rw [h2, recGo_one (secK_fit hg hg2 (by omega) (by omega)), secK_data, if_pos (by
      have : decide (2 ≤ kindS (secK g a b m)) = decide (m + 1 = secs b.length) := secK_ends
      rw [decide_eq_decide] at this
      omega), Option.map_some, pieceOf_last hm.symm, Nat.mul_zero, List.drop_zero, Nat.sub_zero, List.take_append_drop]
  congr 2
  omega
/-- what stands behind stops a record that goes on there -/
def Stops (g n : Nat) (rest : List (List UInt8)) : Prop := ∀ s r, rest = s :: r → goodB s n = false ∨ genS s < g
theorem recGo_stops {a g n : Nat} {rest : List (List UInt8)} (h : Stops g n rest) : recGo a g n rest = none := by
  cases rest with
  | nil => rfl
  | cons s r =>
    refine recGo_bad ?_
    unfold fitS
    rcases h s r rfl with h | h
    · rw [h]; rfl
    · rw [decide_eq_false (by omega : ¬ genS s = g), Bool.and_false]
theorem recGo_cut {g a m : Nat} {b : List UInt8} (hg : 0 < g) (hg2 : g < 4294967296) (hm : m < secs b.length) (ha : a + secs b.length ≤ 65536) {rest : List (List UInt8)} (hr : Stops g (a + m) rest) : recGo a g a ((recW g a b).take m ++ rest) = none := by
  have h := recGo_part hg hg2 hm ha rest m 0 (by omega)
  rw [List.drop_zero, Nat.add_zero, recGo_stops hr] at h
  exact h
theorem getD_of_drop {l : List (List UInt8)} {a : Nat} {s : List UInt8} {r : List (List UInt8)} (h : l.drop a = s :: r) : l.getD a [] = s := by
  have h1 := congrArg (fun x => x[0]?) h
  simp only [List.getElem?_drop, Nat.add_zero, List.getElem?_cons_zero] at h1
  rw [List.getD_eq_getElem?_getD, h1, Option.getD_some]
/-- how many records lie whole in the first m sectors -/
def cnt : Nat → List (List UInt8) → Nat
  | _, [] => 0
  | m, b :: r => if secs b.length ≤ m then cnt (m - secs b.length) r + 1 else 0
theorem cnt_le (m : Nat) (rs : List (List UInt8)) : cnt m rs ≤ rs.length := by
  induction rs generalizing m with
  | nil => exact Nat.le_refl _
  | cons b r ih =>
    unfold cnt
    split
    · have := ih (m - secs b.length); simp only [List.length_cons]; omega
    · omega
theorem cnt_all {m : Nat} {rs : List (List UInt8)} (h : used rs ≤ m) : cnt m rs = rs.length := by
  induction rs generalizing m with
  | nil => rfl
  | cons b r ih =>
    rw [used_cons] at h
    unfold cnt
    rw [if_pos (by omega), ih (by omega), List.length_cons]
/-- the first m sectors of records, written with generation g from a on, and something behind them that stops: the whole ones among them are read -/
theorem parse_new {g : Nat} (hg : 0 < g) (hg2 : g < 4294967296) {l : List (List UInt8)} {rest : List (List UInt8)} : ∀ (rs : List (List UInt8)) (a m last : Nat), last ≤ g → m ≤ used rs → a + used rs ≤ 65536 →
    l.drop a = (recsW g a rs).take m ++ rest → Stops g (a + m) rest → (m = 0 → Stops last a rest) → recsFrom l a last = rs.take (cnt m rs)
  | [], a, m, last, hl, hm, ha, hd, hs, h0 => by
    obtain rfl : m = 0 := by rw [used_nil] at hm; omega
    rw [List.take_nil]
    have hd' : l.drop a = rest := by rw [hd]; simp [recsW]
    cases e : rest with
    | nil => exact recsFrom_none (by unfold recAt; rw [hd', e]; rfl)
    | cons s r =>
      have hx := getD_of_drop (hd'.trans e)
      rcases h0 rfl s r e with h | h
      · exact recsFrom_none (by unfold recAt; rw [hd', e]; exact recGo_bad (by unfold fitS; rw [h]; rfl))
      · exact recsFrom_old (by rw [hx]; exact h)
  | b :: rs, a, m, last, hl, hm, ha, hd, hs, h0 => by
    have hp := secs_pos b.length
    rw [used_cons] at hm ha
    by_cases hb : secs b.length ≤ m
    · have hd1 : l.drop a = recW g a b ++ ((recsW g (a + secs b.length) rs).take (m - secs b.length) ++ rest) := by
        rw [hd, recsW_cons, List.take_append, recW_length, List.take_of_length_le (by rw [recW_length]; omega), List.append_assoc]
      have hx : l.getD a [] = secK g a b 0 := by
        refine getD_of_drop (r := (recW g a b).drop 1 ++ ((recsW g (a + secs b.length) rs).take (m - secs b.length) ++ rest)) ?_
        rw [hd1, ← List.cons_append]
        congr 1
        have := recW_drop (g := g) (a := a) (b := b) (k := 0) (by omega)
        rwa [List.drop_zero] at this
      have hgen : genS (l.getD a []) = g := by rw [hx]; exact secK_gen hg2
      have hr : recAt l a = some (b, a + secs b.length) := by
        unfold recAt
        rw [hgen, hd1]
        exact recGo_full hg hg2 (by omega) _
      rw [recsFrom_some hr (by rw [hgen]; exact hl), hgen]
      unfold cnt
      rw [if_pos hb, List.take_succ_cons]
      congr 1
      refine parse_new hg hg2 (rest := rest) rs (a + secs b.length) (m - secs b.length) g (Nat.le_refl _) (by omega) (by omega) ?_ ?_ ?_
      · rw [← List.drop_drop, hd1, List.drop_append_of_le_length (by rw [recW_length]; exact Nat.le_refl _), List.drop_of_length_le (by rw [recW_length]; exact Nat.le_refl _), List.nil_append]
      · rw [show a + secs b.length + (m - secs b.length) = a + m by omega]; exact hs
      · intro e; rw [show a + secs b.length = a + m by omega]; exact hs
    · have hc : cnt m (b :: rs) = 0 := by unfold cnt; rw [if_neg hb]
      rw [hc, List.take_zero]
      have hd1 : l.drop a = (recW g a b).take m ++ rest := by
        rw [hd, recsW_cons, List.take_append_of_le_length (by rw [recW_length]; omega)]
      rcases Nat.eq_zero_or_pos m with e | hm0
      · subst e
        have hd' : l.drop a = rest := by rw [hd1]; simp
        cases e : rest with
        | nil => exact recsFrom_none (by unfold recAt; rw [hd', e]; rfl)
        | cons s r =>
          have hx := getD_of_drop (hd'.trans e)
          rcases h0 rfl s r e with h | h
          · exact recsFrom_none (by unfold recAt; rw [hd', e]; exact recGo_bad (by unfold fitS; rw [h]; rfl))
          · exact recsFrom_old (by rw [hx]; exact h)
      · have hx : l.getD a [] = secK g a b 0 := by
          refine getD_of_drop (r := ((recW g a b).drop 1).take (m - 1) ++ rest) ?_
          rw [hd1, ← List.cons_append]
          congr 1
          have := recW_drop (g := g) (a := a) (b := b) (k := 0) (by omega)
          rw [List.drop_zero] at this
          conv => lhs; rw [this, show m = (m - 1) + 1 by omega, List.take_succ_cons]
        have hgen : genS (l.getD a []) = g := by rw [hx]; exact secK_gen hg2
        refine recsFrom_none ?_
        unfold recAt
        rw [hgen, hd1]
        exact recGo_cut hg hg2 (by omega) (by omega) hs

/-- each sector has its size -/
def Sized128 (l : List (List UInt8)) : Prop := ∀ s ∈ l, s.length = 128
theorem recGo_size {a g n : Nat} {ss : List (List UInt8)} {x : List UInt8 × Nat} (hs : Sized128 ss) (hn : a ≤ n) (h : recGo a g n ss = some x) : x.2 = n + (if n = a then secs x.1.length else (x.1.length + 115) / 116) ∧ (n ≠ a → x.1.length ≠ 0) := by
  induction ss generalizing n x with
  | nil => cases h
  | cons s r ih =>
    have hf : fitS a g n s = true := by
      cases e : fitS a g n s
      · rw [recGo_bad e] at h; cases h
      · rfl
    rw [recGo_one hf] at h
    unfold fitS at hf
    simp only [Bool.and_eq_true, beq_iff_eq, decide_eq_decide] at hf
    obtain ⟨⟨hg, hk⟩, -⟩ := hf
    have hfm := (good_form hg).1
    unfold formB at hfm
    simp only [Bool.and_eq_true, Bool.or_eq_true, decide_eq_true_eq] at hfm
    obtain ⟨⟨⟨-, h2⟩, h3⟩, h4⟩ := hfm
    have hd := dataS_length (hs s (by simp)) h2
    split at h
    · injection h with h
      subst h
      dsimp only
      rw [hd]
      unfold secs
      refine ⟨?_, fun hne => by omega⟩
      by_cases e : n = a
      · rw [if_pos e]; omega
      · rw [if_neg e]; omega
    · rw [Option.map_eq_some_iff] at h
      obtain ⟨y, hy, rfl⟩ := h
      obtain ⟨i1, i2⟩ := ih (fun t ht => hs t (by simp [ht])) (by omega) hy
      have i3 := i2 (by omega)
      rw [if_neg (by omega)] at i1
      dsimp only
      rw [List.length_append, hd, i1]
      unfold secs
      refine ⟨?_, fun _ => by omega⟩
      by_cases e : n = a
      · rw [if_pos e]; omega
      · rw [if_neg e]; omega
theorem recAt_size {l : List (List UInt8)} {a : Nat} {x : List UInt8 × Nat} (hs : Sized128 l) (h : recAt l a = some x) : x.2 = a + secs x.1.length := by
  have := (recGo_size (fun t ht => hs t (List.mem_of_mem_drop ht)) (Nat.le_refl _) h).1
  rwa [if_pos rfl] at this
/-- a record is read from its sectors alone -/
theorem recGo_pre {a g n : Nat} {ss ss' : List (List UInt8)} {x : List UInt8 × Nat} (h : recGo a g n ss = some x) (he : ∀ i, n + i < x.2 → ss'[i]? = ss[i]?) : recGo a g n ss' = some x := by
  induction ss generalizing n x ss' with
  | nil => cases h
  | cons s r ih =>
    have hp := recGo_pos h
    have h0 := he 0 (by omega)
    rw [List.getElem?_cons_zero] at h0
    obtain ⟨r', rfl⟩ : ∃ r', ss' = s :: r' := by
      match ss', h0 with
      | [], h0 => simp at h0
      | t :: r', h0 => simp at h0; exact ⟨r', by rw [h0]⟩
    have hf : fitS a g n s = true := by
      cases e : fitS a g n s
      · rw [recGo_bad e] at h; cases h
      · rfl
    rw [recGo_one hf] at h ⊢
    split at h
    · rename_i e; rw [if_pos e]; exact h
    · rename_i e
      rw [if_neg e]
      rw [Option.map_eq_some_iff] at h
      obtain ⟨y, hy, rfl⟩ := h
      rw [ih hy fun i hi => by
        have := he (i + 1) (by dsimp only; omega)
        rwa [List.getElem?_cons_succ, List.getElem?_cons_succ] at this]
      rfl
theorem recAt_pre {l l' : List (List UInt8)} {a : Nat} {x : List UInt8 × Nat} (h : recAt l a = some x) (he : ∀ i, a ≤ i → i < x.2 → l'[i]? = l[i]?) : recAt l' a = some x := by
  have hp := recAt_pos h
  unfold recAt
  rw [List.getD_eq_getElem?_getD, he a (Nat.le_refl _) hp.1, ← List.getD_eq_getElem?_getD]
  refine recGo_pre h fun i hi => ?_
  rw [List.getElem?_drop, List.getElem?_drop, he (a + i) (by omega) hi]
/-- the greatest generation -/
def genMax (l : List (List UInt8)) : Nat := l.foldl (fun n s => max n (genS s)) 0
theorem genMax_fold (l : List (List UInt8)) (n : Nat) : n ≤ l.foldl (fun n s => max n (genS s)) n ∧ ∀ s ∈ l, genS s ≤ l.foldl (fun n s => max n (genS s)) n := by
  induction l generalizing n with
  | nil => exact ⟨Nat.le_refl _, fun s h => absurd h (by simp)⟩
  | cons t r ih =>
    obtain ⟨h1, h2⟩ := ih (max n (genS t))
    simp only [List.foldl_cons]
    refine ⟨by omega, fun s hs => ?_⟩
    rcases List.mem_cons.1 hs with rfl | hs
    · omega
    · exact h2 s hs
theorem genMax_ge {l : List (List UInt8)} {s : List UInt8} (h : s ∈ l) : genS s ≤ genMax l := (genMax_fold l 0).2 s h
theorem genMax_le {l : List (List UInt8)} {g : Nat} (h : ∀ s ∈ l, genS s ≤ g) : genMax l ≤ g := by
  unfold genMax
  have : ∀ (l : List (List UInt8)) (n : Nat), n ≤ g → (∀ s ∈ l, genS s ≤ g) → l.foldl (fun n s => max n (genS s)) n ≤ g := fun l => by
    induction l with
    | nil => exact fun n hn _ => hn
    | cons t r ih =>
      intro n hn hs
      have := hs t (by simp)
      exact ih _ (show max n (genS t) ≤ g by omega) fun s h => hs s (by simp [h])
  exact this l 0 (Nat.zero_le _) h
/-- the records on sectors, split where they end -/
theorem recs_keep {l : List (List UInt8)} (hs : Sized128 l) : ∀ (f a last : Nat), l.length < a + f → a ≤ l.length → last ≤ genMax l → ∃ last', last' ≤ genMax l ∧ a + used (recsGo l a last f) ≤ l.length ∧
    ∀ l' : List (List UInt8), (∀ i, i < a + used (recsGo l a last f) → l'[i]? = l[i]?) → recsFrom l' a last = recsGo l a last f ++ recsFrom l' (a + used (recsGo l a last f)) last'
  | 0, a, last, h, ha, hl => by omega
  | f + 1, a, last, h, ha, hl => by
    have hnil : recsGo l a last (f + 1) = [] → ∃ last', last' ≤ genMax l ∧ a + used (recsGo l a last (f + 1)) ≤ l.length ∧ ∀ l' : List (List UInt8), (∀ i, i < a + used (recsGo l a last (f + 1)) → l'[i]? = l[i]?) → recsFrom l' a last = recsGo l a last (f + 1) ++ recsFrom l' (a + used (recsGo l a last (f + 1))) last' := fun e => by
      rw [e, used_nil, Nat.add_zero]
      exact ⟨last, hl, ha, fun l' _ => rfl⟩
    cases e : recAt l a with
    | none => exact hnil (by unfold recsGo; rw [e])
    | some x =>
      by_cases hlt : genS (l.getD a []) < last
      · exact hnil (by unfold recsGo; rw [e]; exact if_pos hlt)
      · have hp := recAt_pos e
        have hz := recAt_size hs e
        have hx : recsGo l a last (f + 1) = x.1 :: recsGo l x.2 (genS (l.getD a [])) f := by
          conv => lhs; unfold recsGo
          rw [e]
          exact if_neg hlt
        have hge : genS (l.getD a []) ≤ genMax l := genMax_ge (by
          rw [List.getD_eq_getElem?_getD, List.getElem?_eq_getElem (by omega), Option.getD_some]
          exact List.getElem_mem _)
        obtain ⟨last', h1, h2, h3⟩ := recs_keep hs f x.2 (genS (l.getD a [])) (by omega) (by omega) hge
        rw [hx, used_cons, ← Nat.add_assoc, ← hz]
        refine ⟨last', h1, h2, fun l' he => ?_⟩
        have hr : recAt l' a = some x := recAt_pre e fun i _ hi => he i (by omega)
        have hg : genS (l'.getD a []) = genS (l.getD a []) := by
          rw [List.getD_eq_getElem?_getD, he a (by omega), ← List.getD_eq_getElem?_getD]
        rw [recsFrom_some hr (by rw [hg]; omega), hg, h3 l' he]
        rfl
theorem recs_split {l : List (List UInt8)} (hs : Sized128 l) : ∃ last, last ≤ genMax l ∧ used (recs l) ≤ l.length ∧ ∀ l' : List (List UInt8), (∀ i, i < used (recs l) → l'[i]? = l[i]?) → recs l' = recs l ++ recsFrom l' (used (recs l)) last := by
  obtain ⟨last, h1, h2, h3⟩ := recs_keep hs (l.length + 1) 0 0 (by omega) (by omega) (by omega)
  rw [Nat.zero_add] at h2 h3
  exact ⟨last, h1, h2, h3⟩
/-- the first m sectors of new records, written behind the old ones -/
theorem recs_written {l : List (List UInt8)} {g m : Nat} {new rest : List (List UInt8)} (hs : Sized128 l) (hg : genMax l < g) (hg2 : g < 4294967296) (hm : m ≤ used new) (hm0 : 0 < m) (hu : used (recs l) + used new ≤ 65536)
    (hr : Stops g (used (recs l) + m) rest) : recs (l.take (used (recs l)) ++ ((recsW g (used (recs l)) new).take m ++ rest)) = recs l ++ new.take (cnt m new) := by
  obtain ⟨last, h1, h2, h3⟩ := recs_split hs
  have hlen : (l.take (used (recs l))).length = used (recs l) := by rw [List.length_take]; omega
  rw [h3 _ fun i hi => by rw [List.getElem?_append_left (by omega), List.getElem?_take_of_lt hi]]
  congr 1
  refine parse_new (by omega) hg2 (rest := rest) new _ m last (by omega) hm hu ?_ hr (fun e => by omega)
  rw [List.drop_append_of_le_length (by omega), List.drop_of_length_le (by omega), List.nil_append]
theorem stops_old {l : List (List UInt8)} {g : Nat} (hg : genMax l < g) (n k : Nat) : Stops g n (l.drop k) := fun s r e => .inr (by
  have : s ∈ l := List.mem_of_mem_drop (i := k) (by rw [e]; simp)
  have := genMax_ge this
  omega)
end Go.Proofs.Ytocjhepiooljpaa
/- Plain laws: a change of one byte changes the checksum; a damaged sector is not good. -/
namespace Go.Proofs.Ytocjhepiooljpaa

theorem bitS_top {n : Nat} (h : n < 4294967296) : (bitS n).testBit 31 = decide (n % 2 = 1) := by
  have h1 : n / 2 < 2 ^ 31 := by omega
  unfold bitS
  split
  · rename_i e
    rw [Nat.testBit_xor, Nat.testBit_lt_two_pow h1, decide_eq_true e]
    decide
  · rename_i e
    rw [Nat.testBit_lt_two_pow h1, decide_eq_false e]
theorem xor_right_inj {a b c : Nat} (h : a ^^^ c = b ^^^ c) : a = b := by
  have := congrArg (· ^^^ c) h
  simpa [Nat.xor_assoc] using this
theorem xor_left_inj {a b c : Nat} (h : c ^^^ a = c ^^^ b) : a = b := by
  rw [Nat.xor_comm c a, Nat.xor_comm c b] at h; exact xor_right_inj h
theorem bitS_inj {m n : Nat} (hm : m < 4294967296) (hn : n < 4294967296) (h : bitS m = bitS n) : m = n := by
  have ht := congrArg (fun x => x.testBit 31) h
  simp only [bitS_top hm, bitS_top hn, decide_eq_decide] at ht
  unfold bitS at h
  by_cases e : m % 2 = 1
  · rw [if_pos e, if_pos (ht.1 e)] at h
    have := xor_right_inj h
    have := ht.1 e
    omega
  · rw [if_neg e, if_neg (fun x => e (ht.2 x))] at h
    have : ¬ n % 2 = 1 := fun x => e (ht.2 x)
    omega
theorem bitsS_inj {m n : Nat} (hm : m < 4294967296) (hn : n < 4294967296) : ∀ k, bitsS k m = bitsS k n → m = n
  | 0, h => h
  | k + 1, h => bitsS_inj hm hn k (bitS_inj (bitsS_lt hm k) (bitsS_lt hn k) h)
theorem crcB_inj {m n : Nat} (hm : m < 4294967296) (hn : n < 4294967296) {c : UInt8} (h : crcB m c = crcB n c) : m = n := by
  have := byte_lt c
  exact xor_right_inj (bitsS_inj (xor_lt32 hm (by omega)) (xor_lt32 hn (by omega)) 8 h)
theorem crcB_byte {n : Nat} (hn : n < 4294967296) {c d : UInt8} (h : crcB n c = crcB n d) : c = d := by
  have := byte_lt c
  have := byte_lt d
  have := xor_left_inj (bitsS_inj (xor_lt32 hn (by omega)) (xor_lt32 hn (by omega)) 8 h)
  exact UInt8.toNat_inj.1 this
theorem crcL_inj {m n : Nat} (hm : m < 4294967296) (hn : n < 4294967296) {bs : List UInt8} (h : crcL m bs = crcL n bs) : m = n := by
  induction bs generalizing m n with
  | nil => exact h
  | cons c r ih => exact crcB_inj hm hn (ih (crcB_lt hm c) (crcB_lt hn c) h)
theorem crc_set {bs : List UInt8} {i : Nat} {c : UInt8} (hi : i < bs.length) (hc : c ≠ bs[i]) : crc (bs.set i c) ≠ crc bs := by
  intro h
  have h1 := xor_right_inj h
  rw [List.set_eq_take_append_cons_drop, if_pos hi] at h1
  conv at h1 => rhs; rw [← List.take_append_drop i bs, List.drop_eq_getElem_cons hi]
  rw [crcL_append, crcL_append] at h1
  have hl := crcL_lt (by omega : 4294967295 < 4294967296) (bs.take i)
  exact hc (crcB_byte hl (crcL_inj (crcB_lt hl _) (crcB_lt hl _) h1))
theorem num_inj {a b : List UInt8} (hl : a.length = b.length) (h : num a = num b) : a = b := by
  rw [← numl_num a, ← numl_num b, h, hl]
theorem damaged {s : List UInt8} {i k k' : Nat} {c : UInt8} (hs : s.length = 128) (hg : goodB s k = true) (hi : i < s.length) (hc : c ≠ s[i]) : goodB (s.set i c) k' = false := by
  cases e : goodB (s.set i c) k'
  · rfl
  · exfalso
    unfold goodB at hg e
    simp only [Bool.and_eq_true, decide_eq_true_eq] at hg e
    obtain ⟨⟨⟨⟨⟨⟨⟨-, h1⟩, -⟩, -⟩, -⟩, -⟩, -⟩, -⟩ := hg
    obtain ⟨⟨⟨⟨⟨⟨⟨-, h2⟩, -⟩, -⟩, -⟩, -⟩, -⟩, -⟩ := e
    have hL : (s.take 4 ++ s.drop 8).length = 124 := by rw [List.length_append, List.length_take, List.length_drop]; omega
    rcases Nat.lt_or_ge i 4 with h | h
    · rw [List.drop_set, if_pos h, List.drop_set, if_pos (by omega), h1, List.take_set] at h2
      have := crc_set (bs := s.take 4 ++ s.drop 8) (i := i) (c := c) (by omega) (by rw [List.getElem_append_left (by rw [List.length_take]; omega), List.getElem_take]; exact hc)
      rw [List.set_append_left _ _ (by rw [List.length_take]; omega)] at this
      exact this h2.symm
    · rcases Nat.lt_or_ge i 8 with h8 | h8
      · rw [List.take_set_of_le (by omega : 4 ≤ i), List.drop_set, if_neg (by omega), List.drop_set, if_pos h8, ← h1] at h2
        have := num_inj (by simp) h2
        have h3 := congrArg (fun x => x[i - 4]?) this
        simp only [List.getElem?_take_of_lt (by omega : i - 4 < 4), List.getElem?_drop] at h3
        rw [List.getElem?_set_self (by rw [List.length_drop]; omega), show 4 + (i - 4) = i by omega, List.getElem?_eq_getElem hi] at h3
        exact hc (Option.some.inj h3)
      · rw [List.take_set_of_le (by omega : 4 ≤ i), List.drop_set, if_neg (by omega), List.drop_set, if_neg (by omega), List.take_set_of_le (by omega : 4 ≤ i - 4), h1] at h2
        have := crc_set (bs := s.take 4 ++ s.drop 8) (i := i - 4) (c := c) (by omega) (by
          rw [List.getElem_append_right (by rw [List.length_take]; omega), List.getElem_drop]
          simp only [List.length_take, hs]
          have : 8 + (i - 4 - min 4 128) = i := by omega
          simp only [this]
          exact hc)
        rw [List.set_append_right _ _ (by rw [List.length_take]; omega), List.length_take, hs, show i - 4 - min 4 128 = i - 8 by omega] at this
        exact this h2.symm
end Go.Proofs.Ytocjhepiooljpaa
