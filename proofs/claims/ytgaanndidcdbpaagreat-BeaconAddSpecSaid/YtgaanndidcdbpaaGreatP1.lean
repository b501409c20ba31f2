/- For all beacons, commitments, reveals and opened shares the law BeaconAddSpec of the given program returns true, and its arguments read afterwards as before. Conditions: none beyond the row. -/
import Derived.Test.YtgaanndidcdbpaaGreatN1
import Derived.Test.YtgaanndidcdbpaaGreatZN
namespace Go.Proofs.YtgaanndidcdbpaaGreat.beaconAddSpec
open Go.ChangeShapes Go.WideShapes Go.ChangeAt Go.RowKit Go.Deep Go.Joins

theorem own : ownKnob Tryz.prog.godebug = none := by kernel_rfl

set_option maxRecDepth 100000 in
theorem contract (H : Type) (enc : TypeId × Value → H) (W : World) (base : Nat) (args : Array Value) (ds gs : List (DataW H)) (before : List MemPlace)
    (hval : ∀ (j : Nat) t v, Tryz.f3.params[j]? = some t → args[j]? = some v → Value.okWide Tryz.prog W .any base t v)
    (hW : DataW.Whole enc Tryz.prog Tryz.f3.params.toList Rows.beaconAddSpecSpec.vars false W args.toList ds gs before)
    (hsz0 : (DataW.weightsEach Tryz.prog (Tryz.f3.params.toList ++ Rows.beaconAddSpecSpec.plain.varTypes Tryz.prog) (ds ++ gs)).all (· ≤ reachBytes) = true) :
    Calls Tryz.prog 3 args W fun e W' => ∃ v, e = .returned v ∧ Rows.beaconAddSpecSpec.post enc Tryz.prog Tryz.f3 false true false false W args v W' := by
  have hW' := hW
  obtain ⟨p, q, hA0, hV, rfl, hfz, hnd⟩ := hW
  have hA : DataW.TrodAll enc Tryz.prog W 0 (fun _ => true) true Tryz.f3.params.toList args.toList ds p := hA0
  have hsz : ∀ n ∈ DataW.weightsEach Tryz.prog (Tryz.f3.params.toList ++ Rows.beaconAddSpecSpec.plain.varTypes Tryz.prog) (ds ++ gs), n ≤ 140737488355328 := fun n hn => by
    have h2 : n ≤ 140737488351232 := of_decide_eq_true (List.all_eq_true.1 hsz0 n hn)
    omega
  clear hsz0
  rw [Tryz.params3] at hA hval hsz
  obtain ⟨rfl, rfl⟩ := trodVars_none hV
  obtain ⟨v0, vs0, d0, ds0, p0, q0, hargs, rfl, rfl, h0, r0⟩ := trodAll_cons hA
  obtain ⟨v1, vs1, d1, ds1, p1, q1, rfl, rfl, rfl, h1, r1⟩ := trodAll_cons r0
  obtain ⟨v2, vs2, d2, ds2, p2, q2, rfl, rfl, rfl, h2, r2⟩ := trodAll_cons r1
  obtain ⟨v3, vs3, d3, ds3, p3, q3, rfl, rfl, rfl, h3, r3⟩ := trodAll_cons r2
  obtain ⟨rfl, rfl, rfl⟩ := trodAll_nil r3
  obtain rfl : args = #[v0, v1, v2, v3] := by cases args; simp_all
  clear hA0
  simp only [List.append_nil] at hW'
  obtain ⟨x0, hY0, hS0⟩ := open_bea (hval 0 28 v0 rfl rfl) h0
  have hSB0 := hS0 (fun q hq => hsz q (weights_at (j := 0) rfl rfl hq))
  obtain ⟨x1, hY1, hU1, hT1, hS1⟩ := open_com (hval 1 31 v1 rfl rfl) h1
  have hSB1 := hS1 (fun q hq => hsz q (weights_at (j := 1) rfl rfl hq))
  obtain ⟨x2, rfl, hU2⟩ := open_rev (hval 2 33 v2 rfl rfl) h2
  obtain ⟨x3, rfl, hU3⟩ := open_opn (hval 3 37 v3 rfl rfl) h3
  refine (law1 W _ _ _ _ x0 x1 x2 x3 hY0 hSB0 hY1 ⟨hU1, hT1, hSB1⟩ hU2 hU3).mono fun e W' ⟨he, hb⟩ => ?_
  subst he
  exact ⟨_, rfl, law_post hW' rfl rfl rfl rfl rfl (by rw [Tryz.params3]; simp only [List.mem_cons, List.not_mem_nil, or_false, forall_eq_or_imp, forall_eq]; exact ⟨⟨by kernel_rfl, of_decide_eq_true (by kernel_rfl)⟩, ⟨by kernel_rfl, of_decide_eq_true (by kernel_rfl)⟩, ⟨by kernel_rfl, of_decide_eq_true (by kernel_rfl)⟩, ⟨by kernel_rfl, of_decide_eq_true (by kernel_rfl)⟩⟩) (by kernel_rfl) hb⟩

set_option maxRecDepth 100000 in
theorem lifted (os : Os) (started : os.Started) (H : Type) (enc : TypeId × Value → H) :
    ReturnsInHanded {} Tryz.checked os 3 .any (Rows.beaconAddSpecSpec.pre6 enc Tryz.prog Tryz.f3 [] false) (Rows.beaconAddSpecSpec.post enc Tryz.prog Tryz.f3 false true false false) := by
  refine returnsInHanded_of_change_sized (C := Tryz.checked) own started (by kernel_rfl) Tryz.func3
    (ChangeSpec.witness6 (enc := enc) (C := Tryz.checked) false ⟨#[], #[.agg #[.slice none 0 0, .int .i64 0, .int .u64 0, .slice none 0 0, .slice none 0 0, .slice none 0 0], .agg #[.int .i64 0, .slice none 0 0], .agg #[.int .i64 0, .int .u64 0], .agg #[.int .i64 0, .int .i64 0, .int .u64 0, .int .u64 0]], []⟩ 8 (by kernel_rfl) (by kernel_rfl) (by kernel_rfl) (by kernel_rfl)) ?_
  intro W base args ds gs before hval hW _ hsz _
  exact contract H enc W base args ds gs before hval hW hsz

theorem over : Rows.beaconAddSpecRow.holds Tryz.pinned (OpenSpec.ofChange Rows.beaconAddSpecSpec) :=
  OpenClaim.holds_of_wide 3 Tryz.f3 rfl rfl rfl rfl rfl rfl rfl ⟨rfl, rfl, rfl, rfl, rfl⟩ rfl rfl rfl rfl rfl (by kernel_rfl) Tryz.func3 (by kernel_rfl)
    (of_decide_eq_true (by kernel_rfl)) (by unfold Func.isWrapper; first | (rw [if_pos (by decide +kernel)]; kernel_rfl) | (rw [if_neg (by decide +kernel)]; exact ⟨rfl, rfl⟩))
    (fun os started H enc _ => lifted os started H enc)

theorem proved : Rows.BeaconAddSpecSaid := over
end Go.Proofs.YtgaanndidcdbpaaGreat.beaconAddSpec
