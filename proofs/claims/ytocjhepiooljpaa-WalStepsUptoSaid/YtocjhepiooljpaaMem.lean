import Derived.Test.YtocjhepiooljpaaGen
import Derived.WalkKit
import Derived.WalkSpells
import Derived.WalkLawsBesides
import Derived.Lib.Hide
import Derived.Deep.QuietTactic
import Derived.BigQuiet
namespace Go.Proofs.Ytocjhepiooljpaa
open Go.RowKit

section
variable {w wr w' : World} {M M' : Nat → Prop} {sz n i : Nat} {A : Option Addr} {v : Value} {f : Nat → Nat → Value}
end

/-- a byte of memory -/
def byt (x : UInt8) : Value := .int .u8 (x.toNat : Int)
structure Wr where
  pos : Int
  data : List UInt8
  deriving DecidableEq
structure DiskD where
  sectors : List (List UInt8)
  pending : List Wr
  left : Int
  stopped : Bool
  deriving DecidableEq
def w0 : Wr := ⟨0, []⟩
def BytesC (w : World) (M : Nat → Prop) (A : Option Addr) (bs : List UInt8) : Prop := Cells w M 1 A bs.length (fun i _ => byt (bs.getD i 0))
def IsBytes (w : World) (M : Nat → Prop) (v : Value) (bs : List UInt8) : Prop := ∃ A c, v = .slice A bs.length c ∧ bs.length ≤ c ∧ c ≤ 9223372036854775807 ∧ BytesC w M A bs
/-- a list of byte lists -/
def MatC (w : World) (M : Nat → Prop) (A : Option Addr) (ss : List (List UInt8)) : Prop :=
  ∃ vs : Nat → Value, Cells w M 1 A ss.length (fun i _ => vs i) ∧ ∀ i, i < ss.length → IsBytes w M (vs i) (ss.getD i [])
def IsMat (w : World) (M : Nat → Prop) (v : Value) (ss : List (List UInt8)) : Prop := ∃ A c, v = .slice A ss.length c ∧ ss.length ≤ c ∧ c ≤ 9223372036854775807 ∧ MatC w M A ss
def WrsC (w : World) (M : Nat → Prop) (A : Option Addr) (ps : List Wr) : Prop :=
  ∃ vs : Nat → Value, Cells w M 2 A ps.length (fun i j => if j = 0 then .int .i64 (ps.getD i w0).pos else vs i) ∧ ∀ i, i < ps.length → IsBytes w M (vs i) (ps.getD i w0).data
def IsWrs (w : World) (M : Nat → Prop) (v : Value) (ps : List Wr) : Prop := ∃ A c, v = .slice A ps.length c ∧ ps.length ≤ c ∧ c ≤ 9223372036854775807 ∧ WrsC w M A ps
def IsDisk (w : World) (M : Nat → Prop) (v : Value) (d : DiskD) : Prop :=
  ∃ sv pv, v = .agg #[sv, pv, .int .i64 d.left, .bool d.stopped] ∧ IsMat w M sv d.sectors ∧ IsWrs w M pv d.pending

section
variable {w w' wr : World} {M M' : Nat → Prop} {v : Value} {A : Option Addr} {k : Nat}
theorem BytesC.keep {bs : List UInt8} (h : BytesC w M A bs) (hk : ∀ p : Addr, M p.block → p.block < w.heap.size → w'.cell? p = w.cell? p) : BytesC w' M A bs := Cells.keep h hk
theorem BytesC.mono {bs : List UInt8} (h : BytesC w M A bs) (hM : ∀ b, b < w.heap.size → M b → M' b) : BytesC w M' A bs := Cells.mono h hM (by omega)
theorem IsBytes.keep {bs : List UInt8} (h : IsBytes w M v bs) (hk : ∀ p : Addr, M p.block → p.block < w.heap.size → w'.cell? p = w.cell? p) : IsBytes w' M v bs := by
  obtain ⟨A, c, e, h1, h2, h3⟩ := h; exact ⟨A, c, e, h1, h2, h3.keep hk⟩
theorem IsBytes.mono {bs : List UInt8} (h : IsBytes w M v bs) (hM : ∀ b, b < w.heap.size → M b → M' b) : IsBytes w M' v bs := by
  obtain ⟨A, c, e, h1, h2, h3⟩ := h; exact ⟨A, c, e, h1, h2, h3.mono hM⟩
theorem IsBytes.below {bs : List UInt8} (h : IsBytes w M v bs) (hb : Below w.heap.size w w') : IsBytes w' M v bs := h.keep fun _ _ hp => hb.cell hp
theorem MatC.keep {ss : List (List UInt8)} (h : MatC w M A ss) (hk : ∀ p : Addr, M p.block → p.block < w.heap.size → w'.cell? p = w.cell? p) : MatC w' M A ss := by
  obtain ⟨vs, h1, h2⟩ := h; exact ⟨vs, h1.keep hk, fun i hi => (h2 i hi).keep hk⟩
theorem MatC.mono {ss : List (List UInt8)} (h : MatC w M A ss) (hM : ∀ b, b < w.heap.size → M b → M' b) : MatC w M' A ss := by
  obtain ⟨vs, h1, h2⟩ := h; exact ⟨vs, h1.mono hM (by omega), fun i hi => (h2 i hi).mono hM⟩
theorem MatC.at_ {ss : List (List UInt8)} (h : MatC w M A ss) (hb : Below w.heap.size w wr) (hk : k < ss.length) :
    ∃ b off bA bc, A = some ⟨b, off, none⟩ ∧ b < w.heap.size ∧ wr.cell? ⟨b, off + k, none⟩ = some (.slice bA (ss[k]).length bc) ∧ (ss[k]).length ≤ bc ∧ bc ≤ 9223372036854775807 ∧ BytesC w M bA (ss[k]) := by
  obtain ⟨vs, h1, h2⟩ := h
  obtain ⟨b, off, e, _, hl, hc⟩ := h1.at1 hb hk
  obtain ⟨bA, bc, e2, h3, h4, h5⟩ := h2 k hk
  rw [List.getD_eq_getElem?_getD, List.getElem?_eq_getElem hk, Option.getD_some] at e2 h3 h5
  exact ⟨b, off, bA, bc, e, hl, by rw [hc, e2], h3, h4, h5⟩
theorem IsMat.keep {ss : List (List UInt8)} (h : IsMat w M v ss) (hk : ∀ p : Addr, M p.block → p.block < w.heap.size → w'.cell? p = w.cell? p) : IsMat w' M v ss := by
  obtain ⟨A, c, e, h1, h2, h3⟩ := h; exact ⟨A, c, e, h1, h2, h3.keep hk⟩
theorem IsMat.mono {ss : List (List UInt8)} (h : IsMat w M v ss) (hM : ∀ b, b < w.heap.size → M b → M' b) : IsMat w M' v ss := by
  obtain ⟨A, c, e, h1, h2, h3⟩ := h; exact ⟨A, c, e, h1, h2, h3.mono hM⟩
theorem IsMat.below {ss : List (List UInt8)} (h : IsMat w M v ss) (hb : Below w.heap.size w w') : IsMat w' M v ss := h.keep fun _ _ hp => hb.cell hp
theorem WrsC.keep {ps : List Wr} (h : WrsC w M A ps) (hk : ∀ p : Addr, M p.block → p.block < w.heap.size → w'.cell? p = w.cell? p) : WrsC w' M A ps := by
  obtain ⟨vs, h1, h2⟩ := h; exact ⟨vs, h1.keep hk, fun i hi => (h2 i hi).keep hk⟩
theorem WrsC.mono {ps : List Wr} (h : WrsC w M A ps) (hM : ∀ b, b < w.heap.size → M b → M' b) : WrsC w M' A ps := by
  obtain ⟨vs, h1, h2⟩ := h; exact ⟨vs, h1.mono hM (by omega), fun i hi => (h2 i hi).mono hM⟩
theorem WrsC.at_ {ps : List Wr} (h : WrsC w M A ps) (hb : Below w.heap.size w wr) (hk : k < ps.length) :
    ∃ b off bA bc, A = some ⟨b, off, none⟩ ∧ b < w.heap.size ∧ wr.cell? ⟨b, off + k * 2, none⟩ = some (.int .i64 (ps[k]).pos) ∧ wr.cell? ⟨b, off + k * 2 + 1, none⟩ = some (.slice bA (ps[k]).data.length bc) ∧
      (ps[k]).data.length ≤ bc ∧ bc ≤ 9223372036854775807 ∧ BytesC w M bA (ps[k]).data := by
  obtain ⟨vs, h1, h2⟩ := h
  obtain ⟨b, off, e, _, hl, hc, hd⟩ := h1.at2 hb hk
  obtain ⟨bA, bc, e2, h3, h4, h5⟩ := h2 k hk
  rw [List.getD_eq_getElem?_getD, List.getElem?_eq_getElem hk, Option.getD_some] at e2 h3 h5
  simp only [if_true] at hc
  rw [List.getD_eq_getElem?_getD, List.getElem?_eq_getElem hk, Option.getD_some] at hc
  exact ⟨b, off, bA, bc, e, hl, hc, by rw [hd, if_neg (by omega), e2], h3, h4, h5⟩
theorem IsWrs.keep {ps : List Wr} (h : IsWrs w M v ps) (hk : ∀ p : Addr, M p.block → p.block < w.heap.size → w'.cell? p = w.cell? p) : IsWrs w' M v ps := by
  obtain ⟨A, c, e, h1, h2, h3⟩ := h; exact ⟨A, c, e, h1, h2, h3.keep hk⟩
theorem IsWrs.mono {ps : List Wr} (h : IsWrs w M v ps) (hM : ∀ b, b < w.heap.size → M b → M' b) : IsWrs w M' v ps := by
  obtain ⟨A, c, e, h1, h2, h3⟩ := h; exact ⟨A, c, e, h1, h2, h3.mono hM⟩
theorem IsWrs.below {ps : List Wr} (h : IsWrs w M v ps) (hb : Below w.heap.size w w') : IsWrs w' M v ps := h.keep fun _ _ hp => hb.cell hp
theorem IsDisk.keep {d : DiskD} (h : IsDisk w M v d) (hk : ∀ p : Addr, M p.block → p.block < w.heap.size → w'.cell? p = w.cell? p) : IsDisk w' M v d := by
  obtain ⟨sv, pv, e, h1, h2⟩ := h; exact ⟨sv, pv, e, h1.keep hk, h2.keep hk⟩
theorem IsDisk.below {d : DiskD} (h : IsDisk w M v d) (hb : Below w.heap.size w w') : IsDisk w' M v d := h.keep fun _ _ hp => hb.cell hp
theorem IsDisk.mono {d : DiskD} (h : IsDisk w M v d) (hM : ∀ b, b < w.heap.size → M b → M' b) : IsDisk w M' v d := by
  obtain ⟨sv, pv, e, h1, h2⟩ := h; exact ⟨sv, pv, e, h1.mono hM, h2.mono hM⟩
theorem IsDisk.parts {d : DiskD} (h : IsDisk w M v d) : ∃ sA sc pA pc, v = .agg #[.slice sA d.sectors.length sc, .slice pA d.pending.length pc, .int .i64 d.left, .bool d.stopped] ∧
    d.sectors.length ≤ sc ∧ sc ≤ 9223372036854775807 ∧ MatC w M sA d.sectors ∧ d.pending.length ≤ pc ∧ pc ≤ 9223372036854775807 ∧ WrsC w M pA d.pending := by
  obtain ⟨sv, pv, rfl, ⟨sA, sc, rfl, h1, h2, h3⟩, ⟨pA, pc, rfl, h4, h5, h6⟩⟩ := h
  exact ⟨sA, sc, pA, pc, rfl, h1, h2, h3, h4, h5, h6⟩
end

theorem bsz {B : Nat} {w w' : World} (h : Below B w w') : w.heap.size ≤ w'.heap.size := h.size

/- the specification -/
def headOk (d : DiskD) : Bool := decide (1 ≤ d.sectors.length) && decide (d.sectors.length ≤ 4096) && decide (d.pending.length ≤ 4096) && decide (-1 ≤ d.left) && decide (d.left ≤ 65536)
def secOk (s : List UInt8) : Bool := decide (s.length = 128)
def penOk (n : Nat) (x : Wr) : Bool := decide (0 ≤ x.pos) && decide (x.pos < n) && decide (x.data.length = 128)
def okB (d : DiskD) : Bool := headOk d && d.sectors.all secOk && d.pending.all (penOk d.sectors.length)
def chk (d : DiskD) : Int := if okB d then 0 else 340
theorem chk_head {d : DiskD} (h : headOk d = false) : chk d = 340 := by simp [chk, okB, h]
theorem chk_sec {d : DiskD} {k : Nat} (hk : k < d.sectors.length) (h : d.sectors[k].length ≠ 128) : chk d = 340 := by
  have : d.sectors.all secOk = false := by rw [List.all_eq_false]; exact ⟨_, List.getElem_mem hk, by simp [secOk, h]⟩
  simp [chk, okB, this]
theorem chk_pen {d : DiskD} {k : Nat} (hk : k < d.pending.length) (h : penOk d.sectors.length d.pending[k] = false) : chk d = 340 := by
  have : d.pending.all (penOk d.sectors.length) = false := by rw [List.all_eq_false]; exact ⟨_, List.getElem_mem hk, by simp [h]⟩
  simp [chk, okB, this]
theorem chk_ok {d : DiskD} (h1 : headOk d = true) (h2 : upTo secOk d.sectors d.sectors.length) (h3 : upTo (penOk d.sectors.length) d.pending d.pending.length) : chk d = 0 := by
  simp [chk, okB, h1, upTo_all h2, upTo_all h3]
end Go.Proofs.Ytocjhepiooljpaa
