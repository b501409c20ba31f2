/- Sector of the reference. -/
import Derived.Test.YtocjhepiooljpaaA9
import Derived.Test.YtocjhepiooljpaaB2
import Derived.Test.YtocjhepiooljpaaB3
namespace Go.Proofs.Ytocjhepiooljpaa
open Go.RowKit Go.Deep Go.Shelf

def kindB (be en : Bool) : UInt8 := (if be then 1 else 0) + (if en then 2 else 0)

theorem own_num {w : World} {g n y : Nat} (h : w.rowIs g 5 n (bv (numl y n))) (hn : n ≤ 8 := by omega) : OwnB w g (.slice (some ⟨g, 0, none⟩) n n) (numl y n) := by
  have := OwnB.row (L := numl y n) (base := g) (by rw [numl_length]; exact h) (Nat.le_refl _) (by rw [numl_length]; omega)
  rw [numl_length] at this
  exact this
theorem own_src {w : World} {base c : Nat} {A : Option Addr} {L : List UInt8} (h : OwnB w base (.slice A L.length c) L) : BytesC w (fun q => base ≤ q) A L := by
  obtain ⟨A', c', e, -, -, hb⟩ := h.bytes
  injection e with e1 e2 e3
  subst e1
  exact hb
theorem own_src4 {w : World} {base g n y : Nat} (h : OwnB w base (.slice (some ⟨g, 0, none⟩) n n) (numl y n)) : BytesC w (fun q => base ≤ q) (some ⟨g, 0, none⟩) (numl y n) := by
  obtain ⟨A', c', e, -, -, hb⟩ := h.bytes
  injection e with e1 e2 e3
  rw [e1]
  exact hb
theorem OwnB.keepB {w w' : World} {base : Nat} {v : Value} {L : List UInt8} (h : OwnB w base v L) (hk : ∀ g, v.ownBlock = some g → w'.heap[g]? = w.heap[g]?) : OwnB w' base v L :=
  ⟨h.1, by
    rcases h.2 with ⟨rfl, hx⟩ | ⟨g, cap, cur, rfl, hg, hgb, rest⟩
    · exact .inl ⟨rfl, hx⟩
    · exact .inr ⟨g, cap, cur, rfl, hg, (hk g rfl).trans hgb, rest⟩⟩
theorem two_bytes (w : World) (t : TypeId) (a b : UInt8) (va vb : Value) (ha : va = byt a) (hb : vb = byt b) : BytesC (w.alloc (.cells #[va, vb] t)) (fun _ => True) (some ⟨w.heap.size, 0, none⟩) [a, b] := fun _ => by
  refine ⟨w.heap.size, 0, rfl, trivial, fun i j hi hj => ?_⟩
  obtain rfl : j = 0 := by omega
  have hc : (w.alloc (.cells #[va, vb] t)).heap[w.heap.size]? = some (.cells #[va, vb] t (0, 0)) := heap_alloc_new _ _
  have hi2 : i = 0 ∨ i = 1 := by simp at hi; omega
  rcases hi2 with rfl | rfl
  · rw [ha] at hc ⊢; exact cell_of hc rfl
  · rw [hb] at hc ⊢; exact cell_of hc rfl
theorem byt_len {n : Nat} (h : n < 256) : Value.int .u8 (n : Int) = byt (UInt8.ofNat n) := by
  unfold byt; rw [UInt8.toNat_ofNat']; congr 1; omega
set_option maxRecDepth 20000 in
set_option maxHeartbeats 4000000 in
theorem sector_any (w : World) (M : Nat → Prop) (x k : Nat) (ki : Int) (be en : Bool) (b : List UInt8) (u : Value) (hx : x < 18446744073709551616) (hki : IntKind.u64.wrap ki = (k : Int)) (hk : k < 18446744073709551616) (hb : b.length ≤ 116) (h : IsBytes w M u b) :
    Calls Try.prog 47 #[.int .u64 (x : Int), .int .i64 ki, .bool be, .bool en, u] w fun e w' => ∃ v, e = .returned v ∧ IsBytes w' (fun g => w.heap.size ≤ g) v (secOf x k (kindB be en) b) ∧ Below w.heap.size w w' := by
  obtain ⟨A, c, rfl, hc1, hc2, hc3⟩ := h.parts
  have HS := Lib.hid hc3
  clear h hc3
  obtain ⟨base, hbase⟩ : ∃ base, base = w.heap.size := ⟨_, rfl⟩
  have HBS := Lib.hid hbase
  clear hbase
  have CN := Lib.hid fun (W : World) (y n : Nat) (hn : n ≤ 8) (hy : y < 18446744073709551616) => numeral_row W y n hn hy
  have CK := Lib.hid fun (W : World) M A c bs hl h => checksum_any W M A c bs hl h
  have hkn : ∃ kn : Nat, kn = (kindB be en).toNat := ⟨_, rfl⟩
  obtain ⟨kn, hkn⟩ := hkn
  have HKN := Lib.hid hkn
  have hkv : (kn : Int) = (if be then 1 else 0) + (if en then 2 else 0) := by rw [hkn]; unfold kindB; cases be <;> cases en <;> rfl
  have HKV := Lib.hid hkv
  clear hkn hkv
  go_enter Try.func47, Try.ntmps47
  cases be <;> cases en
  · go_upto_region 6 with fail
    go_wp2_with fail
    refine (CN.out w k 2 (by omega) hk).mono ?_
    rintro e w2 ⟨rfl, hr2, hb2⟩
    rw [← HBS.out] at hr2
    have HO2 : Hid (OwnB w2 base (.slice (some ⟨base, 0, none⟩) 2 2) (numl k 2)) := Lib.hid (by
      have := OwnB.row (L := numl k 2) (base := base) (by rw [numl_length]; exact hr2) (Nat.le_refl _) (by rw [numl_length]; omega)
      rw [numl_length] at this
      exact this)
    have HB2 := Lib.hid (show Below base w w2 by rw [HBS.out]; exact hb2)
    have HZ2 := Lib.hid (show base ≤ w2.heap.size by rw [HBS.out]; exact hb2.size)
    rw [← HBS.out]
    clear hr2 hb2
    have HLN := Lib.hid (byt_len (n := b.length) (by omega))
    have hl2 := numl_length k 2
    have HL2 := Lib.hid hl2
    clear hl2
    go_upto_region 7 with (at_builtin; refine wpList_appB (M := fun _ => True) rfl (.tmp 22) (.tmp 27) rfl base base (.slice (some ⟨base, 0, none⟩) 2 2) (numl k 2) rfl (HO2.out.below ((Below.refl _ _).alloc (Nat.le_refl _) _)) (some ⟨w2.heap.size, 0, none⟩) 2 2 [(kindB false false), UInt8.ofNat b.length] rfl rfl (two_bytes w2 _ (kindB false false) (UInt8.ofNat b.length) _ _ rfl HLN.out) (by rw [HL2.out]; simp) (by rw [World.size_alloc]; exact Nat.le_succ_of_le HZ2.out) (Nat.le_refl _) (HB2.out.alloc HZ2.out _) ?_; intro v3 w3 HO3 HB3 HZ3)
    have hl3 : (numl k 2 ++ [(kindB false false), UInt8.ofNat b.length]).length = 4 := by rw [List.length_append, HL2.out]; rfl
    have HL3 := Lib.hid hl3
    clear hl3
    obtain ⟨L3, hL3⟩ : ∃ L3, L3 = numl k 2 ++ [(kindB false false), UInt8.ofNat b.length] := ⟨_, rfl⟩
    rw [← hL3] at HO3 HL3
    have HE3 := Lib.hid hL3
    obtain ⟨A3, c3, hv3, -, -, -⟩ := HO3.out.bytes
    subst hv3
    clear hL3
    go_upto_region 8 with (at_builtin; refine wpList_appB (M := M) rfl (.tmp 29) (.tmp 30) rfl base base (.slice A3 L3.length c3) L3 rfl HO3.out A b.length c b rfl rfl (HS.out.keep fun p _ hp => HB3.out.cell (p := p) (by rw [HBS.out]; exact hp)) (by rw [HL3.out]; omega) HZ3.out (Nat.le_refl _) HB3.out ?_; intro v4 w4 HO4 HB4 HZ4)
    have hl4 : (L3 ++ b).length = 4 + b.length := by rw [List.length_append, HL3.out]
    have HL4 := Lib.hid hl4
    clear hl4
    obtain ⟨L4, hL4⟩ : ∃ L4, L4 = L3 ++ b := ⟨_, rfl⟩
    rw [← hL4] at HO4 HL4
    have HE4 := Lib.hid hL4
    obtain ⟨A4, c4, hv4, -, -, -⟩ := HO4.out.bytes
    subst hv4
    clear hL4
    have HZI := Lib.hid (show Value.int .i64 (116 - (b.length : Int)) = .int .i64 ((116 - b.length : Nat) : Int) by congr 1; omega)
    go_upto_region 9 with (at_builtin; refine wpList_appZ rfl (.tmp 32) (.tmp 35) rfl base base (116 - b.length) (.slice A4 L4.length c4) L4 rfl HO4.out HZI.out (by rw [HL4.out]; omega) (by rw [HL4.out]; omega) (by omega) HZ4.out (Nat.le_refl _) HB4.out ?_; intro v5 w5 HO5 HB5 HZ5)
    have hl5 : (L4 ++ List.replicate (116 - b.length) 0).length = 120 := by rw [List.length_append, HL4.out, List.length_replicate]; omega
    have HL5 := Lib.hid hl5
    clear hl5
    obtain ⟨L5, hL5⟩ : ∃ L5, L5 = L4 ++ List.replicate (116 - b.length) 0 := ⟨_, rfl⟩
    rw [← hL5] at HO5 HL5
    have HE5 := Lib.hid (show L5 = bodyS k (kindB false false) b by rw [hL5, HE4.out, HE3.out]; rfl)
    obtain ⟨A5, c5, hv5, -, -, -⟩ := HO5.out.bytes
    subst hv5
    clear hL5 HE3 HE4 HL3 HL4 HZI HLN HO2 HO3 HO4 HB2 HB3 HB4 HZ2 HZ3 HZ4
    go_wp2_with fail
    refine (CN.out w5 x 4 (by omega) hx).mono ?_
    rintro e w6 ⟨rfl, hr6, hb6⟩
    have HO6 : Hid (OwnB w6 w5.heap.size (.slice (some ⟨w5.heap.size, 0, none⟩) 4 4) (numl x 4)) := Lib.hid (own_num hr6)
    have HB6 := Lib.hid (HB5.out.trans (hb6.mono HZ5.out))
    have HB56 := Lib.hid hb6
    have HZ6 := Lib.hid (Nat.le_trans HZ5.out hb6.size)
    have HO56 := Lib.hid (HO5.out.below hb6)
    clear hr6 hb6
    go_wp2_with fail
    refine (CN.out w6 x 4 (by omega) hx).mono ?_
    rintro e w7 ⟨rfl, hr7, hb7⟩
    have HO7 : Hid (OwnB w7 w6.heap.size (.slice (some ⟨w6.heap.size, 0, none⟩) 4 4) (numl x 4)) := Lib.hid (own_num hr7)
    have HB7 := Lib.hid (HB6.out.trans (hb7.mono HZ6.out))
    have HZ7 := Lib.hid hb7.size
    have HB67 := Lib.hid hb7
    have HO57 := Lib.hid (HO56.out.below hb7)
    have HO67 := Lib.hid (HO6.out.below hb7)
    clear hr7 hb7
    go_wp2_with (at_builtin; refine wpList_appB (W0 := w7) (M := fun q => base ≤ q) rfl (.tmp 40) (.tmp 41) rfl w6.heap.size w6.heap.size (.slice (some ⟨w6.heap.size, 0, none⟩) 4 4) (numl x 4) rfl HO7.out A5 L5.length c5 L5 rfl rfl (own_src HO57.out) (by rw [HL5.out, numl_length]; omega) HZ7.out (Nat.le_refl _) (Below.refl _ _) ?_; intro v8 w8 HO8 HB8 HZ8; (obtain ⟨L8, hL8⟩ : ∃ L8, L8 = numl x 4 ++ L5 := ⟨_, rfl⟩); rw [← hL8] at HO8; have HE8 := Lib.hid hL8; obtain ⟨A8, c8, hv8, -, -, -⟩ := HO8.out.bytes; subst hv8; clear hL8)
    have HL8 := Lib.hid (show L8.length = 124 by rw [HE8.out, List.length_append, HL5.out, numl_length])
    refine (CK.out w8 _ A8 c8 L8 (by rw [HL8.out]; omega) (own_src HO8.out)).mono ?_
    rintro e w9 ⟨rfl, hw9⟩
    subst hw9
    obtain ⟨q, hq⟩ : ∃ q, q = crc L8 := ⟨_, rfl⟩
    rw [← hq]
    have hql : q < 4294967296 := by rw [hq]; exact crc_lt _
    have hqw : IntKind.u64.wrap (q : Int) = (q : Int) := by rw [IntKind.wrap_u64]; omega
    have HQ := Lib.hid hq
    clear hq
    go_wp2_with fail
    refine (CN.out w9 q 4 (by omega) (by omega)).mono ?_
    rintro e w10 ⟨rfl, hr10, hb10⟩
    have HO10 : Hid (OwnB w10 w9.heap.size (.slice (some ⟨w9.heap.size, 0, none⟩) 4 4) (numl q 4)) := Lib.hid (own_num hr10)
    have h56 : w5.heap.size < w6.heap.size := own_lt HO6.out _ rfl
    have h67 : w6.heap.size ≤ w7.heap.size := HZ7.out
    have h79 : w7.heap.size ≤ w9.heap.size := HB8.out.size
    have b67 : Below w6.heap.size w6 w7 := HB67.out
    have b59 : Below w5.heap.size w5 w9 := (HB56.out.trans (b67.mono (Nat.le_of_lt h56))).trans (HB8.out.mono (Nat.le_of_lt h56))
    have b510 : Below w5.heap.size w5 w10 := b59.trans (hb10.mono b59.size)
    have HO610 : Hid (OwnB w10 w5.heap.size (.slice (some ⟨w5.heap.size, 0, none⟩) 4 4) (numl x 4)) := Lib.hid (HO6.out.keepB fun g hg => by
      have hg' : g = w5.heap.size := by simp [Value.ownBlock] at hg; exact hg.symm
      subst hg'
      exact (hb10.block _ (by omega)).trans ((HB8.out.block _ h56).trans (b67.block _ h56)))
    have HB510 := Lib.hid b510
    have HZ510 := Lib.hid b510.size
    clear hr10 hb10 h56 h67 h79 b67 b59 b510 HO6 HO67 HO7 HO57 HO56 HO8 HB8 HZ8 HB67 HB56 HB6 HB7 HZ6 HZ7
    go_upto_region 10 with (at_builtin; refine wpList_appB (W0 := w5) (M := fun r => w9.heap.size ≤ r) rfl (.tmp 38) (.tmp 45) rfl w5.heap.size w5.heap.size (.slice (some ⟨w5.heap.size, 0, none⟩) 4 4) (numl x 4) rfl HO610.out (some ⟨w9.heap.size, 0, none⟩) 4 4 (numl q 4) rfl (numl_length q 4).symm (own_src4 HO10.out) (by rw [numl_length, numl_length]; omega) HZ510.out (Nat.le_refl _) HB510.out ?_; intro v11 w11 HO11 HB11 HZ11)
    obtain ⟨L11, hL11⟩ : ∃ L11, L11 = numl x 4 ++ numl q 4 := ⟨_, rfl⟩
    rw [← hL11] at HO11
    have HE11 := Lib.hid hL11
    have HL11 := Lib.hid (show L11.length = 8 by rw [hL11, List.length_append, numl_length, numl_length])
    obtain ⟨A11, c11, hv11, -, -, -⟩ := HO11.out.bytes
    subst hv11
    have HO511 := Lib.hid (HO5.out.grow HB11.out (Nat.le_refl _))
    clear hL11 HO610 HO10 HB510 HZ510
    go_wp2_with (at_builtin; refine wpList_appB (W0 := w5) (M := fun r => base ≤ r) rfl (.tmp 47) (.tmp 48) rfl w5.heap.size w5.heap.size (.slice A11 L11.length c11) L11 rfl HO11.out A5 L5.length c5 L5 rfl rfl (own_src HO511.out) (by rw [HL11.out, HL5.out]; omega) HZ11.out (Nat.le_refl _) HB11.out ?_; intro v12 w12 HO12 HB12 HZ12)
    go_ret
    refine ⟨_, rfl, ?_, by rw [← HBS.out]; exact HB5.out.trans (HB12.out.mono HZ5.out)⟩
    have he : L11 ++ L5 = secOf x k (kindB false false) b := by rw [HE11.out, HQ.out, HE8.out, HE5.out]; rfl
    rw [← he, ← HBS.out]
    exact (HO12.out.base HZ5.out).isBytes
  · go_upto_region 6 with fail
    go_wp2_with fail
    refine (CN.out w k 2 (by omega) hk).mono ?_
    rintro e w2 ⟨rfl, hr2, hb2⟩
    rw [← HBS.out] at hr2
    have HO2 : Hid (OwnB w2 base (.slice (some ⟨base, 0, none⟩) 2 2) (numl k 2)) := Lib.hid (by
      have := OwnB.row (L := numl k 2) (base := base) (by rw [numl_length]; exact hr2) (Nat.le_refl _) (by rw [numl_length]; omega)
      rw [numl_length] at this
      exact this)
    have HB2 := Lib.hid (show Below base w w2 by rw [HBS.out]; exact hb2)
    have HZ2 := Lib.hid (show base ≤ w2.heap.size by rw [HBS.out]; exact hb2.size)
    rw [← HBS.out]
    clear hr2 hb2
    have HLN := Lib.hid (byt_len (n := b.length) (by omega))
    have hl2 := numl_length k 2
    have HL2 := Lib.hid hl2
    clear hl2
    go_upto_region 7 with (at_builtin; refine wpList_appB (M := fun _ => True) rfl (.tmp 22) (.tmp 27) rfl base base (.slice (some ⟨base, 0, none⟩) 2 2) (numl k 2) rfl (HO2.out.below ((Below.refl _ _).alloc (Nat.le_refl _) _)) (some ⟨w2.heap.size, 0, none⟩) 2 2 [(kindB false true), UInt8.ofNat b.length] rfl rfl (two_bytes w2 _ (kindB false true) (UInt8.ofNat b.length) _ _ rfl HLN.out) (by rw [HL2.out]; simp) (by rw [World.size_alloc]; exact Nat.le_succ_of_le HZ2.out) (Nat.le_refl _) (HB2.out.alloc HZ2.out _) ?_; intro v3 w3 HO3 HB3 HZ3)
    have hl3 : (numl k 2 ++ [(kindB false true), UInt8.ofNat b.length]).length = 4 := by rw [List.length_append, HL2.out]; rfl
    have HL3 := Lib.hid hl3
    clear hl3
    obtain ⟨L3, hL3⟩ : ∃ L3, L3 = numl k 2 ++ [(kindB false true), UInt8.ofNat b.length] := ⟨_, rfl⟩
    rw [← hL3] at HO3 HL3
    have HE3 := Lib.hid hL3
    obtain ⟨A3, c3, hv3, -, -, -⟩ := HO3.out.bytes
    subst hv3
    clear hL3
    go_upto_region 8 with (at_builtin; refine wpList_appB (M := M) rfl (.tmp 29) (.tmp 30) rfl base base (.slice A3 L3.length c3) L3 rfl HO3.out A b.length c b rfl rfl (HS.out.keep fun p _ hp => HB3.out.cell (p := p) (by rw [HBS.out]; exact hp)) (by rw [HL3.out]; omega) HZ3.out (Nat.le_refl _) HB3.out ?_; intro v4 w4 HO4 HB4 HZ4)
    have hl4 : (L3 ++ b).length = 4 + b.length := by rw [List.length_append, HL3.out]
    have HL4 := Lib.hid hl4
    clear hl4
    obtain ⟨L4, hL4⟩ : ∃ L4, L4 = L3 ++ b := ⟨_, rfl⟩
    rw [← hL4] at HO4 HL4
    have HE4 := Lib.hid hL4
    obtain ⟨A4, c4, hv4, -, -, -⟩ := HO4.out.bytes
    subst hv4
    clear hL4
    have HZI := Lib.hid (show Value.int .i64 (116 - (b.length : Int)) = .int .i64 ((116 - b.length : Nat) : Int) by congr 1; omega)
    go_upto_region 9 with (at_builtin; refine wpList_appZ rfl (.tmp 32) (.tmp 35) rfl base base (116 - b.length) (.slice A4 L4.length c4) L4 rfl HO4.out HZI.out (by rw [HL4.out]; omega) (by rw [HL4.out]; omega) (by omega) HZ4.out (Nat.le_refl _) HB4.out ?_; intro v5 w5 HO5 HB5 HZ5)
    have hl5 : (L4 ++ List.replicate (116 - b.length) 0).length = 120 := by rw [List.length_append, HL4.out, List.length_replicate]; omega
    have HL5 := Lib.hid hl5
    clear hl5
    obtain ⟨L5, hL5⟩ : ∃ L5, L5 = L4 ++ List.replicate (116 - b.length) 0 := ⟨_, rfl⟩
    rw [← hL5] at HO5 HL5
    have HE5 := Lib.hid (show L5 = bodyS k (kindB false true) b by rw [hL5, HE4.out, HE3.out]; rfl)
    obtain ⟨A5, c5, hv5, -, -, -⟩ := HO5.out.bytes
    subst hv5
    clear hL5 HE3 HE4 HL3 HL4 HZI HLN HO2 HO3 HO4 HB2 HB3 HB4 HZ2 HZ3 HZ4
    go_wp2_with fail
    refine (CN.out w5 x 4 (by omega) hx).mono ?_
    rintro e w6 ⟨rfl, hr6, hb6⟩
    have HO6 : Hid (OwnB w6 w5.heap.size (.slice (some ⟨w5.heap.size, 0, none⟩) 4 4) (numl x 4)) := Lib.hid (own_num hr6)
    have HB6 := Lib.hid (HB5.out.trans (hb6.mono HZ5.out))
    have HB56 := Lib.hid hb6
    have HZ6 := Lib.hid (Nat.le_trans HZ5.out hb6.size)
    have HO56 := Lib.hid (HO5.out.below hb6)
    clear hr6 hb6
    go_wp2_with fail
    refine (CN.out w6 x 4 (by omega) hx).mono ?_
    rintro e w7 ⟨rfl, hr7, hb7⟩
    have HO7 : Hid (OwnB w7 w6.heap.size (.slice (some ⟨w6.heap.size, 0, none⟩) 4 4) (numl x 4)) := Lib.hid (own_num hr7)
    have HB7 := Lib.hid (HB6.out.trans (hb7.mono HZ6.out))
    have HZ7 := Lib.hid hb7.size
    have HB67 := Lib.hid hb7
    have HO57 := Lib.hid (HO56.out.below hb7)
    have HO67 := Lib.hid (HO6.out.below hb7)
    clear hr7 hb7
    go_wp2_with (at_builtin; refine wpList_appB (W0 := w7) (M := fun q => base ≤ q) rfl (.tmp 40) (.tmp 41) rfl w6.heap.size w6.heap.size (.slice (some ⟨w6.heap.size, 0, none⟩) 4 4) (numl x 4) rfl HO7.out A5 L5.length c5 L5 rfl rfl (own_src HO57.out) (by rw [HL5.out, numl_length]; omega) HZ7.out (Nat.le_refl _) (Below.refl _ _) ?_; intro v8 w8 HO8 HB8 HZ8; (obtain ⟨L8, hL8⟩ : ∃ L8, L8 = numl x 4 ++ L5 := ⟨_, rfl⟩); rw [← hL8] at HO8; have HE8 := Lib.hid hL8; obtain ⟨A8, c8, hv8, -, -, -⟩ := HO8.out.bytes; subst hv8; clear hL8)
    have HL8 := Lib.hid (show L8.length = 124 by rw [HE8.out, List.length_append, HL5.out, numl_length])
    refine (CK.out w8 _ A8 c8 L8 (by rw [HL8.out]; omega) (own_src HO8.out)).mono ?_
    rintro e w9 ⟨rfl, hw9⟩
    subst hw9
    obtain ⟨q, hq⟩ : ∃ q, q = crc L8 := ⟨_, rfl⟩
    rw [← hq]
    have hql : q < 4294967296 := by rw [hq]; exact crc_lt _
    have hqw : IntKind.u64.wrap (q : Int) = (q : Int) := by rw [IntKind.wrap_u64]; omega
    have HQ := Lib.hid hq
    clear hq
    go_wp2_with fail
    refine (CN.out w9 q 4 (by omega) (by omega)).mono ?_
    rintro e w10 ⟨rfl, hr10, hb10⟩
    have HO10 : Hid (OwnB w10 w9.heap.size (.slice (some ⟨w9.heap.size, 0, none⟩) 4 4) (numl q 4)) := Lib.hid (own_num hr10)
    have h56 : w5.heap.size < w6.heap.size := own_lt HO6.out _ rfl
    have h67 : w6.heap.size ≤ w7.heap.size := HZ7.out
    have h79 : w7.heap.size ≤ w9.heap.size := HB8.out.size
    have b67 : Below w6.heap.size w6 w7 := HB67.out
    have b59 : Below w5.heap.size w5 w9 := (HB56.out.trans (b67.mono (Nat.le_of_lt h56))).trans (HB8.out.mono (Nat.le_of_lt h56))
    have b510 : Below w5.heap.size w5 w10 := b59.trans (hb10.mono b59.size)
    have HO610 : Hid (OwnB w10 w5.heap.size (.slice (some ⟨w5.heap.size, 0, none⟩) 4 4) (numl x 4)) := Lib.hid (HO6.out.keepB fun g hg => by
      have hg' : g = w5.heap.size := by simp [Value.ownBlock] at hg; exact hg.symm
      subst hg'
      exact (hb10.block _ (by omega)).trans ((HB8.out.block _ h56).trans (b67.block _ h56)))
    have HB510 := Lib.hid b510
    have HZ510 := Lib.hid b510.size
    clear hr10 hb10 h56 h67 h79 b67 b59 b510 HO6 HO67 HO7 HO57 HO56 HO8 HB8 HZ8 HB67 HB56 HB6 HB7 HZ6 HZ7
    go_upto_region 10 with (at_builtin; refine wpList_appB (W0 := w5) (M := fun r => w9.heap.size ≤ r) rfl (.tmp 38) (.tmp 45) rfl w5.heap.size w5.heap.size (.slice (some ⟨w5.heap.size, 0, none⟩) 4 4) (numl x 4) rfl HO610.out (some ⟨w9.heap.size, 0, none⟩) 4 4 (numl q 4) rfl (numl_length q 4).symm (own_src4 HO10.out) (by rw [numl_length, numl_length]; omega) HZ510.out (Nat.le_refl _) HB510.out ?_; intro v11 w11 HO11 HB11 HZ11)
    obtain ⟨L11, hL11⟩ : ∃ L11, L11 = numl x 4 ++ numl q 4 := ⟨_, rfl⟩
    rw [← hL11] at HO11
    have HE11 := Lib.hid hL11
    have HL11 := Lib.hid (show L11.length = 8 by rw [hL11, List.length_append, numl_length, numl_length])
    obtain ⟨A11, c11, hv11, -, -, -⟩ := HO11.out.bytes
    subst hv11
    have HO511 := Lib.hid (HO5.out.grow HB11.out (Nat.le_refl _))
    clear hL11 HO610 HO10 HB510 HZ510
    go_wp2_with (at_builtin; refine wpList_appB (W0 := w5) (M := fun r => base ≤ r) rfl (.tmp 47) (.tmp 48) rfl w5.heap.size w5.heap.size (.slice A11 L11.length c11) L11 rfl HO11.out A5 L5.length c5 L5 rfl rfl (own_src HO511.out) (by rw [HL11.out, HL5.out]; omega) HZ11.out (Nat.le_refl _) HB11.out ?_; intro v12 w12 HO12 HB12 HZ12)
    go_ret
    refine ⟨_, rfl, ?_, by rw [← HBS.out]; exact HB5.out.trans (HB12.out.mono HZ5.out)⟩
    have he : L11 ++ L5 = secOf x k (kindB false true) b := by rw [HE11.out, HQ.out, HE8.out, HE5.out]; rfl
    rw [← he, ← HBS.out]
    exact (HO12.out.base HZ5.out).isBytes
  · go_upto_region 6 with fail
    go_wp2_with fail
    refine (CN.out w k 2 (by omega) hk).mono ?_
    rintro e w2 ⟨rfl, hr2, hb2⟩
    rw [← HBS.out] at hr2
    have HO2 : Hid (OwnB w2 base (.slice (some ⟨base, 0, none⟩) 2 2) (numl k 2)) := Lib.hid (by
      have := OwnB.row (L := numl k 2) (base := base) (by rw [numl_length]; exact hr2) (Nat.le_refl _) (by rw [numl_length]; omega)
      rw [numl_length] at this
      exact this)
    have HB2 := Lib.hid (show Below base w w2 by rw [HBS.out]; exact hb2)
    have HZ2 := Lib.hid (show base ≤ w2.heap.size by rw [HBS.out]; exact hb2.size)
    rw [← HBS.out]
    clear hr2 hb2
    have HLN := Lib.hid (byt_len (n := b.length) (by omega))
    have hl2 := numl_length k 2
    have HL2 := Lib.hid hl2
    clear hl2
    go_upto_region 7 with (at_builtin; refine wpList_appB (M := fun _ => True) rfl (.tmp 22) (.tmp 27) rfl base base (.slice (some ⟨base, 0, none⟩) 2 2) (numl k 2) rfl (HO2.out.below ((Below.refl _ _).alloc (Nat.le_refl _) _)) (some ⟨w2.heap.size, 0, none⟩) 2 2 [(kindB true false), UInt8.ofNat b.length] rfl rfl (two_bytes w2 _ (kindB true false) (UInt8.ofNat b.length) _ _ rfl HLN.out) (by rw [HL2.out]; simp) (by rw [World.size_alloc]; exact Nat.le_succ_of_le HZ2.out) (Nat.le_refl _) (HB2.out.alloc HZ2.out _) ?_; intro v3 w3 HO3 HB3 HZ3)
    have hl3 : (numl k 2 ++ [(kindB true false), UInt8.ofNat b.length]).length = 4 := by rw [List.length_append, HL2.out]; rfl
    have HL3 := Lib.hid hl3
    clear hl3
    obtain ⟨L3, hL3⟩ : ∃ L3, L3 = numl k 2 ++ [(kindB true false), UInt8.ofNat b.length] := ⟨_, rfl⟩
    rw [← hL3] at HO3 HL3
    have HE3 := Lib.hid hL3
    obtain ⟨A3, c3, hv3, -, -, -⟩ := HO3.out.bytes
    subst hv3
    clear hL3
    go_upto_region 8 with (at_builtin; refine wpList_appB (M := M) rfl (.tmp 29) (.tmp 30) rfl base base (.slice A3 L3.length c3) L3 rfl HO3.out A b.length c b rfl rfl (HS.out.keep fun p _ hp => HB3.out.cell (p := p) (by rw [HBS.out]; exact hp)) (by rw [HL3.out]; omega) HZ3.out (Nat.le_refl _) HB3.out ?_; intro v4 w4 HO4 HB4 HZ4)
    have hl4 : (L3 ++ b).length = 4 + b.length := by rw [List.length_append, HL3.out]
    have HL4 := Lib.hid hl4
    clear hl4
    obtain ⟨L4, hL4⟩ : ∃ L4, L4 = L3 ++ b := ⟨_, rfl⟩
    rw [← hL4] at HO4 HL4
    have HE4 := Lib.hid hL4
    obtain ⟨A4, c4, hv4, -, -, -⟩ := HO4.out.bytes
    subst hv4
    clear hL4
    have HZI := Lib.hid (show Value.int .i64 (116 - (b.length : Int)) = .int .i64 ((116 - b.length : Nat) : Int) by congr 1; omega)
    go_upto_region 9 with (at_builtin; refine wpList_appZ rfl (.tmp 32) (.tmp 35) rfl base base (116 - b.length) (.slice A4 L4.length c4) L4 rfl HO4.out HZI.out (by rw [HL4.out]; omega) (by rw [HL4.out]; omega) (by omega) HZ4.out (Nat.le_refl _) HB4.out ?_; intro v5 w5 HO5 HB5 HZ5)
    have hl5 : (L4 ++ List.replicate (116 - b.length) 0).length = 120 := by rw [List.length_append, HL4.out, List.length_replicate]; omega
    have HL5 := Lib.hid hl5
    clear hl5
    obtain ⟨L5, hL5⟩ : ∃ L5, L5 = L4 ++ List.replicate (116 - b.length) 0 := ⟨_, rfl⟩
    rw [← hL5] at HO5 HL5
    have HE5 := Lib.hid (show L5 = bodyS k (kindB true false) b by rw [hL5, HE4.out, HE3.out]; rfl)
    obtain ⟨A5, c5, hv5, -, -, -⟩ := HO5.out.bytes
    subst hv5
    clear hL5 HE3 HE4 HL3 HL4 HZI HLN HO2 HO3 HO4 HB2 HB3 HB4 HZ2 HZ3 HZ4
    go_wp2_with fail
    refine (CN.out w5 x 4 (by omega) hx).mono ?_
    rintro e w6 ⟨rfl, hr6, hb6⟩
    have HO6 : Hid (OwnB w6 w5.heap.size (.slice (some ⟨w5.heap.size, 0, none⟩) 4 4) (numl x 4)) := Lib.hid (own_num hr6)
    have HB6 := Lib.hid (HB5.out.trans (hb6.mono HZ5.out))
    have HB56 := Lib.hid hb6
    have HZ6 := Lib.hid (Nat.le_trans HZ5.out hb6.size)
    have HO56 := Lib.hid (HO5.out.below hb6)
    clear hr6 hb6
    go_wp2_with fail
    refine (CN.out w6 x 4 (by omega) hx).mono ?_
    rintro e w7 ⟨rfl, hr7, hb7⟩
    have HO7 : Hid (OwnB w7 w6.heap.size (.slice (some ⟨w6.heap.size, 0, none⟩) 4 4) (numl x 4)) := Lib.hid (own_num hr7)
    have HB7 := Lib.hid (HB6.out.trans (hb7.mono HZ6.out))
    have HZ7 := Lib.hid hb7.size
    have HB67 := Lib.hid hb7
    have HO57 := Lib.hid (HO56.out.below hb7)
    have HO67 := Lib.hid (HO6.out.below hb7)
    clear hr7 hb7
    go_wp2_with (at_builtin; refine wpList_appB (W0 := w7) (M := fun q => base ≤ q) rfl (.tmp 40) (.tmp 41) rfl w6.heap.size w6.heap.size (.slice (some ⟨w6.heap.size, 0, none⟩) 4 4) (numl x 4) rfl HO7.out A5 L5.length c5 L5 rfl rfl (own_src HO57.out) (by rw [HL5.out, numl_length]; omega) HZ7.out (Nat.le_refl _) (Below.refl _ _) ?_; intro v8 w8 HO8 HB8 HZ8; (obtain ⟨L8, hL8⟩ : ∃ L8, L8 = numl x 4 ++ L5 := ⟨_, rfl⟩); rw [← hL8] at HO8; have HE8 := Lib.hid hL8; obtain ⟨A8, c8, hv8, -, -, -⟩ := HO8.out.bytes; subst hv8; clear hL8)
    have HL8 := Lib.hid (show L8.length = 124 by rw [HE8.out, List.length_append, HL5.out, numl_length])
    refine (CK.out w8 _ A8 c8 L8 (by rw [HL8.out]; omega) (own_src HO8.out)).mono ?_
    rintro e w9 ⟨rfl, hw9⟩
    subst hw9
    obtain ⟨q, hq⟩ : ∃ q, q = crc L8 := ⟨_, rfl⟩
    rw [← hq]
    have hql : q < 4294967296 := by rw [hq]; exact crc_lt _
    have hqw : IntKind.u64.wrap (q : Int) = (q : Int) := by rw [IntKind.wrap_u64]; omega
    have HQ := Lib.hid hq
    clear hq
    go_wp2_with fail
    refine (CN.out w9 q 4 (by omega) (by omega)).mono ?_
    rintro e w10 ⟨rfl, hr10, hb10⟩
    have HO10 : Hid (OwnB w10 w9.heap.size (.slice (some ⟨w9.heap.size, 0, none⟩) 4 4) (numl q 4)) := Lib.hid (own_num hr10)
    have h56 : w5.heap.size < w6.heap.size := own_lt HO6.out _ rfl
    have h67 : w6.heap.size ≤ w7.heap.size := HZ7.out
    have h79 : w7.heap.size ≤ w9.heap.size := HB8.out.size
    have b67 : Below w6.heap.size w6 w7 := HB67.out
    have b59 : Below w5.heap.size w5 w9 := (HB56.out.trans (b67.mono (Nat.le_of_lt h56))).trans (HB8.out.mono (Nat.le_of_lt h56))
    have b510 : Below w5.heap.size w5 w10 := b59.trans (hb10.mono b59.size)
    have HO610 : Hid (OwnB w10 w5.heap.size (.slice (some ⟨w5.heap.size, 0, none⟩) 4 4) (numl x 4)) := Lib.hid (HO6.out.keepB fun g hg => by
      have hg' : g = w5.heap.size := by simp [Value.ownBlock] at hg; exact hg.symm
      subst hg'
      exact (hb10.block _ (by omega)).trans ((HB8.out.block _ h56).trans (b67.block _ h56)))
    have HB510 := Lib.hid b510
    have HZ510 := Lib.hid b510.size
    clear hr10 hb10 h56 h67 h79 b67 b59 b510 HO6 HO67 HO7 HO57 HO56 HO8 HB8 HZ8 HB67 HB56 HB6 HB7 HZ6 HZ7
    go_upto_region 10 with (at_builtin; refine wpList_appB (W0 := w5) (M := fun r => w9.heap.size ≤ r) rfl (.tmp 38) (.tmp 45) rfl w5.heap.size w5.heap.size (.slice (some ⟨w5.heap.size, 0, none⟩) 4 4) (numl x 4) rfl HO610.out (some ⟨w9.heap.size, 0, none⟩) 4 4 (numl q 4) rfl (numl_length q 4).symm (own_src4 HO10.out) (by rw [numl_length, numl_length]; omega) HZ510.out (Nat.le_refl _) HB510.out ?_; intro v11 w11 HO11 HB11 HZ11)
    obtain ⟨L11, hL11⟩ : ∃ L11, L11 = numl x 4 ++ numl q 4 := ⟨_, rfl⟩
    rw [← hL11] at HO11
    have HE11 := Lib.hid hL11
    have HL11 := Lib.hid (show L11.length = 8 by rw [hL11, List.length_append, numl_length, numl_length])
    obtain ⟨A11, c11, hv11, -, -, -⟩ := HO11.out.bytes
    subst hv11
    have HO511 := Lib.hid (HO5.out.grow HB11.out (Nat.le_refl _))
    clear hL11 HO610 HO10 HB510 HZ510
    go_wp2_with (at_builtin; refine wpList_appB (W0 := w5) (M := fun r => base ≤ r) rfl (.tmp 47) (.tmp 48) rfl w5.heap.size w5.heap.size (.slice A11 L11.length c11) L11 rfl HO11.out A5 L5.length c5 L5 rfl rfl (own_src HO511.out) (by rw [HL11.out, HL5.out]; omega) HZ11.out (Nat.le_refl _) HB11.out ?_; intro v12 w12 HO12 HB12 HZ12)
    go_ret
    refine ⟨_, rfl, ?_, by rw [← HBS.out]; exact HB5.out.trans (HB12.out.mono HZ5.out)⟩
    have he : L11 ++ L5 = secOf x k (kindB true false) b := by rw [HE11.out, HQ.out, HE8.out, HE5.out]; rfl
    rw [← he, ← HBS.out]
    exact (HO12.out.base HZ5.out).isBytes
  · go_upto_region 6 with fail
    go_wp2_with fail
    refine (CN.out w k 2 (by omega) hk).mono ?_
    rintro e w2 ⟨rfl, hr2, hb2⟩
    rw [← HBS.out] at hr2
    have HO2 : Hid (OwnB w2 base (.slice (some ⟨base, 0, none⟩) 2 2) (numl k 2)) := Lib.hid (by
      have := OwnB.row (L := numl k 2) (base := base) (by rw [numl_length]; exact hr2) (Nat.le_refl _) (by rw [numl_length]; omega)
      rw [numl_length] at this
      exact this)
    have HB2 := Lib.hid (show Below base w w2 by rw [HBS.out]; exact hb2)
    have HZ2 := Lib.hid (show base ≤ w2.heap.size by rw [HBS.out]; exact hb2.size)
    rw [← HBS.out]
    clear hr2 hb2
    have HLN := Lib.hid (byt_len (n := b.length) (by omega))
    have hl2 := numl_length k 2
    have HL2 := Lib.hid hl2
    clear hl2
    go_upto_region 7 with (at_builtin; refine wpList_appB (M := fun _ => True) rfl (.tmp 22) (.tmp 27) rfl base base (.slice (some ⟨base, 0, none⟩) 2 2) (numl k 2) rfl (HO2.out.below ((Below.refl _ _).alloc (Nat.le_refl _) _)) (some ⟨w2.heap.size, 0, none⟩) 2 2 [(kindB true true), UInt8.ofNat b.length] rfl rfl (two_bytes w2 _ (kindB true true) (UInt8.ofNat b.length) _ _ rfl HLN.out) (by rw [HL2.out]; simp) (by rw [World.size_alloc]; exact Nat.le_succ_of_le HZ2.out) (Nat.le_refl _) (HB2.out.alloc HZ2.out _) ?_; intro v3 w3 HO3 HB3 HZ3)
    have hl3 : (numl k 2 ++ [(kindB true true), UInt8.ofNat b.length]).length = 4 := by rw [List.length_append, HL2.out]; rfl
    have HL3 := Lib.hid hl3
    clear hl3
    obtain ⟨L3, hL3⟩ : ∃ L3, L3 = numl k 2 ++ [(kindB true true), UInt8.ofNat b.length] := ⟨_, rfl⟩
    rw [← hL3] at HO3 HL3
    have HE3 := Lib.hid hL3
    obtain ⟨A3, c3, hv3, -, -, -⟩ := HO3.out.bytes
    subst hv3
    clear hL3
    go_upto_region 8 with (at_builtin; refine wpList_appB (M := M) rfl (.tmp 29) (.tmp 30) rfl base base (.slice A3 L3.length c3) L3 rfl HO3.out A b.length c b rfl rfl (HS.out.keep fun p _ hp => HB3.out.cell (p := p) (by rw [HBS.out]; exact hp)) (by rw [HL3.out]; omega) HZ3.out (Nat.le_refl _) HB3.out ?_; intro v4 w4 HO4 HB4 HZ4)
    have hl4 : (L3 ++ b).length = 4 + b.length := by rw [List.length_append, HL3.out]
    have HL4 := Lib.hid hl4
    clear hl4
    obtain ⟨L4, hL4⟩ : ∃ L4, L4 = L3 ++ b := ⟨_, rfl⟩
    rw [← hL4] at HO4 HL4
    have HE4 := Lib.hid hL4
    obtain ⟨A4, c4, hv4, -, -, -⟩ := HO4.out.bytes
    subst hv4
    clear hL4
    have HZI := Lib.hid (show Value.int .i64 (116 - (b.length : Int)) = .int .i64 ((116 - b.length : Nat) : Int) by congr 1; omega)
    go_upto_region 9 with (at_builtin; refine wpList_appZ rfl (.tmp 32) (.tmp 35) rfl base base (116 - b.length) (.slice A4 L4.length c4) L4 rfl HO4.out HZI.out (by rw [HL4.out]; omega) (by rw [HL4.out]; omega) (by omega) HZ4.out (Nat.le_refl _) HB4.out ?_; intro v5 w5 HO5 HB5 HZ5)
    have hl5 : (L4 ++ List.replicate (116 - b.length) 0).length = 120 := by rw [List.length_append, HL4.out, List.length_replicate]; omega
    have HL5 := Lib.hid hl5
    clear hl5
    obtain ⟨L5, hL5⟩ : ∃ L5, L5 = L4 ++ List.replicate (116 - b.length) 0 := ⟨_, rfl⟩
    rw [← hL5] at HO5 HL5
    have HE5 := Lib.hid (show L5 = bodyS k (kindB true true) b by rw [hL5, HE4.out, HE3.out]; rfl)
    obtain ⟨A5, c5, hv5, -, -, -⟩ := HO5.out.bytes
    subst hv5
    clear hL5 HE3 HE4 HL3 HL4 HZI HLN HO2 HO3 HO4 HB2 HB3 HB4 HZ2 HZ3 HZ4
    go_wp2_with fail
    refine (CN.out w5 x 4 (by omega) hx).mono ?_
    rintro e w6 ⟨rfl, hr6, hb6⟩
    have HO6 : Hid (OwnB w6 w5.heap.size (.slice (some ⟨w5.heap.size, 0, none⟩) 4 4) (numl x 4)) := Lib.hid (own_num hr6)
    have HB6 := Lib.hid (HB5.out.trans (hb6.mono HZ5.out))
    have HB56 := Lib.hid hb6
    have HZ6 := Lib.hid (Nat.le_trans HZ5.out hb6.size)
    have HO56 := Lib.hid (HO5.out.below hb6)
    clear hr6 hb6
    go_wp2_with fail
    refine (CN.out w6 x 4 (by omega) hx).mono ?_
    rintro e w7 ⟨rfl, hr7, hb7⟩
    have HO7 : Hid (OwnB w7 w6.heap.size (.slice (some ⟨w6.heap.size, 0, none⟩) 4 4) (numl x 4)) := Lib.hid (own_num hr7)
    have HB7 := Lib.hid (HB6.out.trans (hb7.mono HZ6.out))
    have HZ7 := Lib.hid hb7.size
    have HB67 := Lib.hid hb7
    have HO57 := Lib.hid (HO56.out.below hb7)
    have HO67 := Lib.hid (HO6.out.below hb7)
    clear hr7 hb7
    go_wp2_with (at_builtin; refine wpList_appB (W0 := w7) (M := fun q => base ≤ q) rfl (.tmp 40) (.tmp 41) rfl w6.heap.size w6.heap.size (.slice (some ⟨w6.heap.size, 0, none⟩) 4 4) (numl x 4) rfl HO7.out A5 L5.length c5 L5 rfl rfl (own_src HO57.out) (by rw [HL5.out, numl_length]; omega) HZ7.out (Nat.le_refl _) (Below.refl _ _) ?_; intro v8 w8 HO8 HB8 HZ8; (obtain ⟨L8, hL8⟩ : ∃ L8, L8 = numl x 4 ++ L5 := ⟨_, rfl⟩); rw [← hL8] at HO8; have HE8 := Lib.hid hL8; obtain ⟨A8, c8, hv8, -, -, -⟩ := HO8.out.bytes; subst hv8; clear hL8)
    have HL8 := Lib.hid (show L8.length = 124 by rw [HE8.out, List.length_append, HL5.out, numl_length])
    refine (CK.out w8 _ A8 c8 L8 (by rw [HL8.out]; omega) (own_src HO8.out)).mono ?_
    rintro e w9 ⟨rfl, hw9⟩
    subst hw9
    obtain ⟨q, hq⟩ : ∃ q, q = crc L8 := ⟨_, rfl⟩
    rw [← hq]
    have hql : q < 4294967296 := by rw [hq]; exact crc_lt _
    have hqw : IntKind.u64.wrap (q : Int) = (q : Int) := by rw [IntKind.wrap_u64]; omega
    have HQ := Lib.hid hq
    clear hq
    go_wp2_with fail
    refine (CN.out w9 q 4 (by omega) (by omega)).mono ?_
    rintro e w10 ⟨rfl, hr10, hb10⟩
    have HO10 : Hid (OwnB w10 w9.heap.size (.slice (some ⟨w9.heap.size, 0, none⟩) 4 4) (numl q 4)) := Lib.hid (own_num hr10)
    have h56 : w5.heap.size < w6.heap.size := own_lt HO6.out _ rfl
    have h67 : w6.heap.size ≤ w7.heap.size := HZ7.out
    have h79 : w7.heap.size ≤ w9.heap.size := HB8.out.size
    have b67 : Below w6.heap.size w6 w7 := HB67.out
    have b59 : Below w5.heap.size w5 w9 := (HB56.out.trans (b67.mono (Nat.le_of_lt h56))).trans (HB8.out.mono (Nat.le_of_lt h56))
    have b510 : Below w5.heap.size w5 w10 := b59.trans (hb10.mono b59.size)
    have HO610 : Hid (OwnB w10 w5.heap.size (.slice (some ⟨w5.heap.size, 0, none⟩) 4 4) (numl x 4)) := Lib.hid (HO6.out.keepB fun g hg => by
      have hg' : g = w5.heap.size := by simp [Value.ownBlock] at hg; exact hg.symm
      subst hg'
      exact (hb10.block _ (by omega)).trans ((HB8.out.block _ h56).trans (b67.block _ h56)))
    have HB510 := Lib.hid b510
    have HZ510 := Lib.hid b510.size
    clear hr10 hb10 h56 h67 h79 b67 b59 b510 HO6 HO67 HO7 HO57 HO56 HO8 HB8 HZ8 HB67 HB56 HB6 HB7 HZ6 HZ7
    go_upto_region 10 with (at_builtin; refine wpList_appB (W0 := w5) (M := fun r => w9.heap.size ≤ r) rfl (.tmp 38) (.tmp 45) rfl w5.heap.size w5.heap.size (.slice (some ⟨w5.heap.size, 0, none⟩) 4 4) (numl x 4) rfl HO610.out (some ⟨w9.heap.size, 0, none⟩) 4 4 (numl q 4) rfl (numl_length q 4).symm (own_src4 HO10.out) (by rw [numl_length, numl_length]; omega) HZ510.out (Nat.le_refl _) HB510.out ?_; intro v11 w11 HO11 HB11 HZ11)
    obtain ⟨L11, hL11⟩ : ∃ L11, L11 = numl x 4 ++ numl q 4 := ⟨_, rfl⟩
    rw [← hL11] at HO11
    have HE11 := Lib.hid hL11
    have HL11 := Lib.hid (show L11.length = 8 by rw [hL11, List.length_append, numl_length, numl_length])
    obtain ⟨A11, c11, hv11, -, -, -⟩ := HO11.out.bytes
    subst hv11
    have HO511 := Lib.hid (HO5.out.grow HB11.out (Nat.le_refl _))
    clear hL11 HO610 HO10 HB510 HZ510
    go_wp2_with (at_builtin; refine wpList_appB (W0 := w5) (M := fun r => base ≤ r) rfl (.tmp 47) (.tmp 48) rfl w5.heap.size w5.heap.size (.slice A11 L11.length c11) L11 rfl HO11.out A5 L5.length c5 L5 rfl rfl (own_src HO511.out) (by rw [HL11.out, HL5.out]; omega) HZ11.out (Nat.le_refl _) HB11.out ?_; intro v12 w12 HO12 HB12 HZ12)
    go_ret
    refine ⟨_, rfl, ?_, by rw [← HBS.out]; exact HB5.out.trans (HB12.out.mono HZ5.out)⟩
    have he : L11 ++ L5 = secOf x k (kindB true true) b := by rw [HE11.out, HQ.out, HE8.out, HE5.out]; rfl
    rw [← he, ← HBS.out]
    exact (HO12.out.base HZ5.out).isBytes
end Go.Proofs.Ytocjhepiooljpaa
