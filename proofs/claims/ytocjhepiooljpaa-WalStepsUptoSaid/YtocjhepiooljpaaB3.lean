/- append(b, make([]byte, m)...): zero bytes behind a row that the call made. -/
import Derived.Test.YtocjhepiooljpaaB1
namespace Go.Proofs.Ytocjhepiooljpaa
open Go.RowKit Go.Deep Go.Shelf

def zB (m : Nat) : List Value := List.replicate m (.int .u8 0)
theorem zB_eq (m : Nat) : zB m = (List.replicate m (0 : UInt8)).map byt := by unfold zB; rw [List.map_replicate]; rfl
theorem zeroCells_u8 (m : Nat) : Builtin.zeroCells #[Value.int .u8 0] m = (zB m).toArray := by
  apply Array.ext
  · simp [Builtin.zeroCells, zB]
  · intro i h1 h2
    simp [Builtin.zeroCells, zB, Nat.mod_one]
theorem under_int : Try.prog.underlying 3 = some (.int .i64) := Try.underlying3
section
variable (w : World)
theorem run_zeros_room (ty : TypeId) (g n cap m : Nat) (cur : Array Value) (hg : w.heap[g]? = some (.cells cur 5 (0, 0))) (hm0 : ¬ m = 0) (hm : m ≤ 65536) (hroom : n + m ≤ cap) (hfit : n + m ≤ cur.size) :
    (Builtin.append_ #[35, 3] ty #[.slice (some ⟨g, 0, none⟩) n cap, .int .i64 (m : Int)]).run Try.prog w =
      .ok (.slice (some ⟨g, 0, none⟩) (n + m) cap) (w.setRow g (cur.toList.take n ++ zB m ++ cur.toList.drop (n + m)).toArray) := by
  obtain ⟨i, hi, hz0, hz1, hz2⟩ := info_parts info_u8
  have hw : IntKind.i64.wrap (m : Int) = (m : Int) := IntWalk.i64_in _ (by omega)
  have ha : ∀ (W : World) (k : Int), (asIntOf (.int .i64 k)).run Try.prog W = .ok (.i64, k) W := fun _ _ => rfl
  have hzc : (Value.int .u8 0).cells = #[.int .u8 0] := rfl
  have h0 : ¬ (m : Int) < 0 := by omega
  have h48 : ¬ (281474976710656 : Int) < (m : Int) := by omega
  have hst := run_storeCells_at Try.prog g n 5 (zB m) 0 cur w hg (by simp [zB]; omega) (by intro u hu; unfold zB at hu; rw [(List.mem_replicate.1 hu).2]; rfl)
  simp only [Nat.add_zero] at hst
  have hzl : (zB m).length = m := by simp [zB]
  simp [Builtin.append_, run_underlying Try.underlying35, run_underlying under_int, sizeOf, typeInfo, zeroValue, hi, hz0, hz1, hz2, hw, asInt, ha, hzc, hroom, hm0, h0, h48, zeroCells_u8, Addr.add_lit, hst]
  rw [hzl]
theorem run_zeros_grow (ty : TypeId) (b : Addr) (n cap m : Nat) (olds : List Value) (hlo : olds.length = n) (holds : ∀ j v, olds[j]? = some v → w.cell? (b.add j) = some v) (hm : m ≤ 65536) (hn : n ≤ 65536) (hg : cap < n + m) :
    (Builtin.append_ #[35, 3] ty #[.slice (some b) n cap, .int .i64 (m : Int)]).run Try.prog w =
      .ok (.slice (some ⟨w.heap.size, 0, none⟩) (n + m) (grownCap w (n + m) cap 5))
        (w.drew.alloc (.cells (olds.toArray ++ (zB m).toArray ++ Builtin.zeroCells #[Value.int .u8 0] (grownCap w (n + m) cap 5 - (n + m))) 5)) := by
  obtain ⟨i, hi, hz0, hz1, hz2⟩ := info_parts info_u8
  have hw : IntKind.i64.wrap (m : Int) = (m : Int) := IntWalk.i64_in _ (by omega)
  have ha : ∀ (W : World) (k : Int), (asIntOf (.int .i64 k)).run Try.prog W = .ok (.i64, k) W := fun _ _ => rfl
  have hzc : (Value.int .u8 0).cells = #[.int .u8 0] := rfl
  have h0 : ¬ (m : Int) < 0 := by omega
  have h48 : ¬ (281474976710656 : Int) < (m : Int) := by omega
  have hn' : ¬ (n + m ≤ cap) := by omega
  have h63' : ¬ (9223372036854775807 < ((n : Int) + (m : Int))) := by omega
  have hnx := nextslicecap_le hg
  have h48' : ¬ (281474976710656 < Builtin.nextslicecap (n + m) cap) := by omega
  have hfo := run_firstCells_some (P := Try.prog) w.drew 1 n b n cap olds (by omega) (by simpa using holds)
  simp [Builtin.append_, run_underlying Try.underlying35, run_underlying under_int, sizeOf, typeInfo, zeroValue, hi, hz0, hz1, hz2, hw, asInt, ha, hzc, hn', h0, h48, h63', h48', zeroCells_u8, Question.forced, hfo, newRow, grownCap]
  intro e
  subst e
  simp [zB]
theorem run_zeros_none (ty : TypeId) (b : Addr) (n cap : Nat) (hroom : n ≤ cap) :
    (Builtin.append_ #[35, 3] ty #[.slice (some b) n cap, .int .i64 0]).run Try.prog w = .ok (.slice (some b) n cap) w := by
  obtain ⟨i, hi, hz0, hz1, hz2⟩ := info_parts info_u8
  have ha : ∀ (W : World) (k : Int), (asIntOf (.int .i64 k)).run Try.prog W = .ok (.i64, k) W := fun _ _ => rfl
  have hw0 : IntKind.i64.wrap 0 = 0 := rfl
  simp [Builtin.append_, run_underlying Try.underlying35, run_underlying under_int, sizeOf, typeInfo, hi, hw0, asInt, ha, hroom, storeCells]
/-- zero bytes behind an own row of bytes -/
theorem run_appZ (ty : TypeId) (base m : Nat) (v : Value) (L : List UInt8) (hown : OwnB w base v L) (hL : 0 < L.length) (hL2 : L.length ≤ 65536) (hm : m ≤ 65536) (hbase : base ≤ w.heap.size) :
    ∃ v' w', (Builtin.append_ #[35, 3] ty #[v, .int .i64 (m : Int)]).run Try.prog w = .ok v' w' ∧ OwnB w' base v' (L ++ List.replicate m 0) ∧ w.grownBy w' v.ownBlock := by
  have hlen : ((L ++ List.replicate m 0).map byt).length = (L.length + m) := by simp
  have hmap : (L ++ List.replicate m 0).map byt = L.map byt ++ zB m := by rw [List.map_append, zB_eq]
  have hzl : (zB m).length = m := by simp [zB]
  rcases hown.2 with ⟨rfl, h0⟩ | ⟨g, cap, cur, rfl, hbg, hg, hnc, hcm, hcs, htake⟩
  · simp at h0; subst h0; simp at hL
  · rw [Nat.mul_one] at hcs htake
    by_cases hm0 : m = 0
    · subst hm0
      exact ⟨_, w, run_zeros_none w ty _ _ _ hnc, by simpa using hown, ⟨rfl, rfl, rfl, Nat.le_refl _, fun _ _ _ => rfl⟩⟩
    · by_cases hroom : L.length + m ≤ cap
      · refine ⟨_, _, run_zeros_room w ty g L.length cap m cur hg hm0 hm hroom (by omega), ?_, ⟨rfl, rfl, rfl, by simp, fun k _ hk => setRow_other w g k _ (fun e => hk (by simp [Value.ownBlock, e]))⟩⟩
        refine ⟨by simp, .inr ⟨g, cap, _, ?_, hbg, setRow_heap w g cur _ _ _ hg, by simpa using hroom, hcm, ?_, ?_⟩⟩
        · simp
        · simp [hzl]; omega
        · rw [hmap, htake]
          exact List.take_left' (by simp [hzl])
      · have holds : ∀ j u, (L.map byt)[j]? = some u → w.cell? ((⟨g, 0, none⟩ : Addr).add j) = some u := World.ownsRow.cells hown (g := g) rfl
        refine ⟨_, _, run_zeros_grow w ty ⟨g, 0, none⟩ L.length cap m (L.map byt) (by simp) holds hm hL2 (by omega), ?_, ⟨rfl, rfl, rfl, by simp, fun k hk _ => Below.heap_alloc w.drew _ k hk⟩⟩
        have hge := grownCap_ge w (L.length + m) cap 5
        refine ⟨by simp, .inr ⟨w.heap.size, _, _, ?_, hbase, heap_alloc_new w.drew _, by simpa using hge, grownCap_le_maxLen w _ cap _ (by unfold maxLen; omega), ?_, ?_⟩⟩
        · simp
        · simp [size_zeroCells, hzl]; omega
        · rw [hmap]
          simp only [Array.toList_append]
          exact List.take_left' (by simp [hzl])
end
section
variable {ops : Array Oper} {o : Oper} {a : Act} {rest : List Oper} {Q : Exit → Act → World → Prop} {w W0 : World}
theorem wpList_appZ (hgd : o.guard = none) (s x : Operand) (ho : o.op = .call { callee := .builtin .append, args := #[s, x], argTypes := #[35, 3] }) (base m k : Nat) (v : Value) (L : List UInt8) (hs : a.eval s = v) (hown : OwnB w base v L)
    (hx : a.eval x = .int .i64 (k : Int)) (hL : 0 < L.length) (hL2 : L.length ≤ 65536) (hk : k ≤ 65536) (hbase : base ≤ w.heap.size) (hm : m ≤ base) (hB : Below m W0 w)
    (h : ∀ v' w', Hid (OwnB w' base v' (L ++ List.replicate k 0)) → Hid (Below m W0 w') → Hid (base ≤ w'.heap.size) → wpList Try.prog ops Q rest (a.put o.dst v') w') : wpList Try.prog ops Q (o :: rest) a w := by
  obtain ⟨v', w', hr, h2, h3⟩ := run_appZ w o.type base k v L hown hL hL2 hk hbase
  have h4 : Below m W0 w' := hB.grown h3 (by omega) (fun k e => by
    have := own_ge hown e
    omega)
  refine wpList_plain hgd fun _ hK => ?_
  unfold Oper.wp execOp
  simp only [ho, resolve, invoke, builtin, Sem.run_bind, Sem.run_pure, Result.andThen_ok, List.map_toArray, List.map_cons, List.map_nil, hs, hx, hr]
  exact hK _ _ (h v' w' h2 h4 (Nat.le_trans hbase h3.size))
end
end Go.Proofs.Ytocjhepiooljpaa
