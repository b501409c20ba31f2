/- For all beacons the law BeaconNumberSpec of the given program returns true, and its arguments read afterwards as before. Conditions: none beyond the row. -/
import Derived.Test.YtgaanndidcdbpaaGreatN2
import Derived.Test.YtgaanndidcdbpaaGreatZN
namespace Go.Proofs.YtgaanndidcdbpaaGreat.beaconNumberSpec
open Go.ChangeShapes Go.WideShapes Go.ChangeAt Go.RowKit Go.Deep Go.Joins

theorem own : ownKnob Tryz.prog.godebug = none := by kernel_rfl

set_option maxRecDepth 100000 in
theorem contract (H : Type) (enc : TypeId × Value → H) (W : World) (base : Nat) (args : Array Value) (ds gs : List (DataW H)) (before : List MemPlace)
    (hval : ∀ (j : Nat) t v, Tryz.f4.params[j]? = some t → args[j]? = some v → Value.okWide Tryz.prog W .any base t v)
    (hW : DataW.Whole enc Tryz.prog Tryz.f4.params.toList Rows.beaconNumberSpecSpec.vars false W args.toList ds gs before)
    (hsz0 : (DataW.weightsEach Tryz.prog (Tryz.f4.params.toList ++ Rows.beaconNumberSpecSpec.plain.varTypes Tryz.prog) (ds ++ gs)).all (· ≤ reachBytes) = true) :
    Calls Tryz.prog 4 args W fun e W' => ∃ v, e = .returned v ∧ Rows.beaconNumberSpecSpec.post enc Tryz.prog Tryz.f4 false true false false W args v W' := by
  have hW' := hW
  obtain ⟨p, q, hA0, hV, rfl, hfz, hnd⟩ := hW
  have hA : DataW.TrodAll enc Tryz.prog W 0 (fun _ => true) true Tryz.f4.params.toList args.toList ds p := hA0
  have hsz : ∀ n ∈ DataW.weightsEach Tryz.prog (Tryz.f4.params.toList ++ Rows.beaconNumberSpecSpec.plain.varTypes Tryz.prog) (ds ++ gs), n ≤ 140737488355328 := fun n hn => by
    have h2 : n ≤ 140737488351232 := of_decide_eq_true (List.all_eq_true.1 hsz0 n hn)
    omega
  clear hsz0
  rw [Tryz.params4] at hA hval hsz
  obtain ⟨rfl, rfl⟩ := trodVars_none hV
  obtain ⟨v0, vs0, d0, ds0, p0, q0, hargs, rfl, rfl, h0, r0⟩ := trodAll_cons hA
  obtain ⟨rfl, rfl, rfl⟩ := trodAll_nil r0
  obtain rfl : args = #[v0] := by cases args; simp_all
  clear hA0
  simp only [List.append_nil] at hW'
  obtain ⟨x0, hY0, hS0⟩ := open_bea (hval 0 28 v0 rfl rfl) h0
  have hSB0 := hS0 (fun q hq => hsz q (weights_at (j := 0) rfl rfl hq))
  refine (law2 W _ _ x0 hY0 hSB0).mono fun e W' ⟨he, hb⟩ => ?_
  subst he
  exact ⟨_, rfl, law_post hW' rfl rfl rfl rfl rfl (by rw [Tryz.params4]; simp only [List.mem_cons, List.not_mem_nil, or_false, forall_eq]; exact ⟨by kernel_rfl, of_decide_eq_true (by kernel_rfl)⟩) (by kernel_rfl) hb⟩

set_option maxRecDepth 100000 in
theorem lifted (os : Os) (started : os.Started) (H : Type) (enc : TypeId × Value → H) :
    ReturnsInHanded {} Tryz.checked os 4 .any (Rows.beaconNumberSpecSpec.pre6 enc Tryz.prog Tryz.f4 [] false) (Rows.beaconNumberSpecSpec.post enc Tryz.prog Tryz.f4 false true false false) := by
  refine returnsInHanded_of_change_sized (C := Tryz.checked) own started (by kernel_rfl) Tryz.func4
    (ChangeSpec.witness6 (enc := enc) (C := Tryz.checked) false ⟨#[], #[.agg #[.slice none 0 0, .int .i64 0, .int .u64 0, .slice none 0 0, .slice none 0 0, .slice none 0 0]], []⟩ 8 (by kernel_rfl) (by kernel_rfl) (by kernel_rfl) (by kernel_rfl)) ?_
  intro W base args ds gs before hval hW _ hsz _
  exact contract H enc W base args ds gs before hval hW hsz

theorem over : Rows.beaconNumberSpecRow.holds Tryz.pinned (OpenSpec.ofChange Rows.beaconNumberSpecSpec) :=
  OpenClaim.holds_of_wide 4 Tryz.f4 rfl rfl rfl rfl rfl rfl rfl ⟨rfl, rfl, rfl, rfl, rfl⟩ rfl rfl rfl rfl rfl (by kernel_rfl) Tryz.func4 (by kernel_rfl)
    (of_decide_eq_true (by kernel_rfl)) (by unfold Func.isWrapper; first | (rw [if_pos (by decide +kernel)]; kernel_rfl) | (rw [if_neg (by decide +kernel)]; exact ⟨rfl, rfl⟩))
    (fun os started H enc _ => lifted os started H enc)

theorem proved : Rows.BeaconNumberSpecSaid := over
end Go.Proofs.YtgaanndidcdbpaaGreat.beaconNumberSpec
