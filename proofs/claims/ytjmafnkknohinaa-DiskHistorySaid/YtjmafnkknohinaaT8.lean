import Derived.Test.YtjmafnkknohinaaT4
namespace Go.Proofs.Ytjmafnkknohinaa
open Go.RowKit Go.Shelf

/- Few -/
def szS (ss : List (List UInt8)) : Nat := (ss.map fun s => 1 + s.length).sum
def szP (ps : List Wr) : Nat := (ps.map fun x => 1 + x.data.length).sum
theorem szS_snoc (ss : List (List UInt8)) (k : Nat) (h : k < ss.length) : szS (ss.take (k + 1)) = szS (ss.take k) + 1 + (ss[k]).length := by
  rw [List.take_succ_eq_append_getElem h]; simp only [szS, List.map_append, List.sum_append, List.map_cons, List.map_nil, List.sum_cons, List.sum_nil]; omega
theorem szP_snoc (ps : List Wr) (k : Nat) (h : k < ps.length) : szP (ps.take (k + 1)) = szP (ps.take k) + 1 + (ps[k]).data.length := by
  rw [List.take_succ_eq_append_getElem h]; simp only [szP, List.map_append, List.sum_append, List.map_cons, List.map_nil, List.sum_cons, List.sum_nil]; omega
def Small (d : DiskD) : Prop := szS d.sectors + szP d.pending ≤ 9000
def RetFew (w : World) (d : DiskD) (e : Ending) (w' : World) : Prop := ∃ b, e = .returned (.bool b) ∧ (b = true → Small d) ∧ Below w.heap.size w w'
theorem RetFew.yes {w w' : World} {d : DiskD} {n : Int} (hn : n ≤ 9000 → Small d) (hb : Below w.heap.size w w') : RetFew w d (.returned (.bool (decide (n ≤ 9000)))) w' := ⟨_, rfl, fun h => hn (by simpa using h), hb⟩

def Lens (d : DiskD) : Prop := (∀ (i : Nat) (h : i < d.sectors.length), (d.sectors[i]).length ≤ 140737488355328) ∧ (∀ (i : Nat) (h : i < d.pending.length), (d.pending[i]).data.length ≤ 140737488355328)
set_option maxHeartbeats 800000 in
theorem few_any (w : World) (M : Nat → Prop) (d : DiskD) (v : Value) (h : IsDisk w M v d) (hL : Lens d) : Calls Try.prog 11 #[v] w (RetFew w d) := by
  obtain ⟨sA, sc, pA, pc, rfl, hs1, hs2, hs3, hp1, hp2, hp3⟩ := h.parts
  obtain ⟨hl1, hl2⟩ := hL
  have HL1 := Lib.hid hl1
  have HL2 := Lib.hid hl2
  clear h hl1 hl2
  go_enter Try.func11, Try.ntmps11
  go_wp2
  go_loop [3, 4] (fun n i => ∃ k N : Nat, k ≤ d.sectors.length ∧ i = .int .i64 k ∧ n = .int .i64 N ∧ N ≤ 140737488370000 ∧ Hid (N = szS (d.sectors.take k))) (fun _ i => d.sectors.length - (intOf i).toNat)
  case atStart => exact ⟨0, 0, Nat.zero_le _, rfl, rfl, by omega, rfl⟩
  case round =>
    obtain ⟨k, N, hk, rfl, rfl, hNb, HN⟩ := hrel
    by_cases hin : k < d.sectors.length ∧ N ≤ 9000
    · obtain ⟨hlt, h9⟩ := hin
      obtain ⟨b, off, bA, bc, rfl, hbl, hck, hb1, hb2, hb3⟩ := hs3.at_ (Below.refl _ _) hlt
      have hcat := HL1.out k hlt
      have HS := Lib.hid (szS_snoc d.sectors k hlt)
      have h9' : decide (N ≤ 9000) = true := by simpa using h9
      go_wp2
      go_round
      case rel =>
        refine ⟨k + 1, N + 1 + (d.sectors[k]).length, by omega, by go_num, by go_num, by omega, ?_⟩
        show _ = _
        rw [HS.out, ← HN.out]
      case measure => simp [intOf]; omega
    · have HE : Hid (k = d.sectors.length ∨ 9000 < N) := by show _ ∨ _; omega
      have hd : (decide (k < d.sectors.length) && decide (N ≤ 9000)) = false := by
        rw [Bool.and_eq_false_iff]; simp; omega
      have HR : Hid (N ≤ 9000 → N = szS d.sectors) := fun h => by
        rcases HE.out with e | e
        · rw [HN.out, e, List.take_length]
        · omega
      clear hin
      by_cases hlt : k < d.sectors.length
      · have h9 : 9000 < N := by have := HE.out; omega
        clear hd
        go_wp2
        go_loop [3, 5] (fun n i => ∃ k2 N2 : Nat, k2 ≤ d.pending.length ∧ i = .int .i64 k2 ∧ n = .int .i64 N2 ∧ N2 ≤ 140737488379010 ∧ Hid (N2 = N + szP (d.pending.take k2))) (fun _ i => d.pending.length - (intOf i).toNat)
        case atStart => exact ⟨0, N, Nat.zero_le _, rfl, rfl, by omega, by simp [Hid, szP]⟩
        case round =>
          obtain ⟨k2, N2, hk2, rfl, rfl, hNb2, HN2⟩ := hrel
          by_cases hin2 : k2 < d.pending.length ∧ N2 ≤ 9000
          · obtain ⟨hlt2, h92⟩ := hin2
            obtain ⟨b, off, bA, bc, rfl, hbl, hck, hck1, hb1, hb2, hb3⟩ := hp3.at_ (Below.refl _ _) hlt2
            have hcat := HL2.out k2 hlt2
            have HS := Lib.hid (szP_snoc d.pending k2 hlt2)
            have h92' : decide (N2 ≤ 9000) = true := by simpa using h92
            go_wp2
            go_round
            case rel =>
              refine ⟨k2 + 1, N2 + 1 + (d.pending[k2]).data.length, by omega, by go_num, by go_num, by omega, ?_⟩
              show _ = _
              rw [HS.out, HN2.out]; omega
            case measure => simp [intOf]; omega
          · have HF : Hid (N2 ≤ 9000 → Small d) := fun h => by
              have e1 := HR.out (by have := HN2.out; omega)
              have e2 : k2 = d.pending.length := by omega
              have e3 := HN2.out
              rw [e2, List.take_length] at e3
              show _ ≤ _
              omega
            clear h9
            by_cases hlt2 : k2 < d.pending.length
            · have h92 : 9000 < N2 := by omega
              clear hin2
              go_wp2
              go_ret
              exact RetFew.yes (n := N2) (fun h => HF.out (by omega)) ((Below.refl _ _).alloc (Nat.le_refl _) _)
            · clear hin2
              go_wp2
              go_ret
              exact RetFew.yes (n := N2) (fun h => HF.out (by omega)) ((Below.refl _ _).alloc (Nat.le_refl _) _)
      · clear hd
        have h9 : True := trivial
        go_wp2
        go_loop [3, 5] (fun n i => ∃ k2 N2 : Nat, k2 ≤ d.pending.length ∧ i = .int .i64 k2 ∧ n = .int .i64 N2 ∧ N2 ≤ 140737488379010 ∧ Hid (N2 = N + szP (d.pending.take k2))) (fun _ i => d.pending.length - (intOf i).toNat)
        case atStart => exact ⟨0, N, Nat.zero_le _, rfl, rfl, by omega, by simp [Hid, szP]⟩
        case round =>
          obtain ⟨k2, N2, hk2, rfl, rfl, hNb2, HN2⟩ := hrel
          by_cases hin2 : k2 < d.pending.length ∧ N2 ≤ 9000
          · obtain ⟨hlt2, h92⟩ := hin2
            obtain ⟨b, off, bA, bc, rfl, hbl, hck, hck1, hb1, hb2, hb3⟩ := hp3.at_ (Below.refl _ _) hlt2
            have hcat := HL2.out k2 hlt2
            have HS := Lib.hid (szP_snoc d.pending k2 hlt2)
            have h92' : decide (N2 ≤ 9000) = true := by simpa using h92
            go_wp2
            go_round
            case rel =>
              refine ⟨k2 + 1, N2 + 1 + (d.pending[k2]).data.length, by omega, by go_num, by go_num, by omega, ?_⟩
              show _ = _
              rw [HS.out, HN2.out]; omega
            case measure => simp [intOf]; omega
          · have HF : Hid (N2 ≤ 9000 → Small d) := fun h => by
              have e1 := HR.out (by have := HN2.out; omega)
              have e2 : k2 = d.pending.length := by omega
              have e3 := HN2.out
              rw [e2, List.take_length] at e3
              show _ ≤ _
              omega
            clear h9
            by_cases hlt2 : k2 < d.pending.length
            · have h92 : 9000 < N2 := by omega
              clear hin2
              go_wp2
              go_ret
              exact RetFew.yes (n := N2) (fun h => HF.out (by omega)) ((Below.refl _ _).alloc (Nat.le_refl _) _)
            · clear hin2
              go_wp2
              go_ret
              exact RetFew.yes (n := N2) (fun h => HF.out (by omega)) ((Below.refl _ _).alloc (Nat.le_refl _) _)
end Go.Proofs.Ytjmafnkknohinaa
