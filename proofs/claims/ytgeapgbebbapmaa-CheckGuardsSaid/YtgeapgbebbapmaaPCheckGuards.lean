/-
  PROVED HERE: the law ordinallaw21.CheckGuards answers true for every input and leaves its arguments as they were.
-/
import Derived.Test.YtgeapgbebbapmaaRows
import Derived.Test.YtgeapgbebbapmaaLw21h
import Derived.Test.YtgeapgbebbapmaaLw21e
import Derived.Test.YtgeapgbebbapmaaOpenS
import Derived.Test.YtgeapgbebbapmaaOpenU8
import Derived.MakeChecks
import Derived.ProofKit
import Derived.SizedLaws
import Derived.Test.YtgeapgbebbapmaaLaw
namespace Go.Proofs.Ytgeapgbebbapmaa
open Go.ChangeShapes Go.WideShapes Go.ChangeAt Go.RowKit Go.Deep

namespace checkGuards
theorem own : ownKnob Try.prog.godebug = none := by kernel_rfl
theorem laidOut : laidOutB Try.prog = true := by kernel_rfl
set_option maxRecDepth 100000 in
theorem contract (H : Type) (enc : TypeId × Value → H) (W : World) (base : Nat) (args : Array Value) (ds gs : List (DataW H)) (before : List MemPlace)
    (hval : ∀ (j : Nat) t v, Try.f4.params[j]? = some t → args[j]? = some v → Value.okWide Try.prog W .any base t v)
    (hW : DataW.Whole enc Try.prog Try.f4.params.toList Rows.checkGuardsSpec.vars false W args.toList ds gs before) (hsz : (DataW.weightsEach Try.prog (Try.f4.params.toList ++ Rows.checkGuardsSpec.plain.varTypes Try.prog) (ds ++ gs)).all (· ≤ reachBytes) = true) :
    Calls Try.prog 4 args W fun e W' => ∃ v, e = .returned v ∧ Rows.checkGuardsSpec.post enc Try.prog Try.f4 false true false false W args v W' := by
  have hW' := hW
  obtain ⟨p, q, hA0, hV, rfl, hfz, hnd⟩ := hW
  have hA : DataW.TrodAll enc Try.prog W 0 (fun _ => true) true Try.f4.params.toList args.toList ds p := hA0
  rw [Try.params4] at hA hval hsz
  obtain ⟨v0, vs0, d0, ds0, p0, q0, hargs, rfl, rfl, h0, r0⟩ := trodAll_cons hA
  obtain ⟨v1, vs1, d1, ds1, p1, q1, rfl, rfl, rfl, h1, r1⟩ := trodAll_cons r0
  obtain ⟨rfl, rfl, rfl⟩ := trodAll_nil r1
  obtain rfl : args = #[v0, v1] := by cases args; simp_all
  obtain ⟨rfl, rfl⟩ := trodVars_none hV
  obtain ⟨n0, e0⟩ := h0; obtain ⟨r, T, c, T2, c2, hw0, rfl, ha, hc, hc1, hc2, _, _⟩ := open_rul (hval 0 46 v0 rfl rfl) e0
  obtain ⟨n1, e1⟩ := h1; obtain ⟨i, rfl⟩ := okWide_int Try.underlying3 (hval 1 3 v1 rfl rfl)
  have hr := sz_rul (w := W) e0 (okW_each hsz).1 ha
  refine (law_guards law_awake r T T2 c c2 i W ha hc hc1 hc2 hw0 hr).mono fun e W' ⟨he, hbel⟩ => ?_
  subst he
  exact ⟨_, rfl, law_close laidOut Try.underlying4 rfl rfl (by decide +kernel) rfl hW' hbel⟩

set_option maxRecDepth 100000 in
theorem lifted (os : Os) (started : os.Started) (H : Type) (enc : TypeId × Value → H) :
    ReturnsInHanded {} Try.checked os 4 .any (Rows.checkGuardsSpec.pre6 enc Try.prog Try.f4 Rows.checkGuardsRow.domain false) (Rows.checkGuardsSpec.post enc Try.prog Try.f4 false true false false) := by
  refine returnsInHanded_of_change_sized (C := Try.checked) own started (by kernel_rfl) Try.func4
    (ChangeSpec.witness6 (enc := enc) (C := Try.checked) false ⟨#[], #[.agg #[.slice none 0 0, .slice none 0 0], .int .i64 0], []⟩ 8 (by kernel_rfl) (by kernel_rfl) (by kernel_rfl) (by kernel_rfl)) ?_
  intro W base args ds gs before hval hW _ hsz _
  exact contract H enc W base args ds gs before hval hW hsz

theorem said : Rows.CheckGuardsSaid :=
  OpenClaim.holds_of_wide 4 Try.f4 rfl rfl rfl rfl rfl rfl rfl ⟨rfl, rfl, rfl, rfl, rfl⟩ rfl rfl rfl rfl rfl (by kernel_rfl) Try.func4 (by kernel_rfl)
    (of_decide_eq_true (by kernel_rfl)) (by unfold Func.isWrapper; first | (rw [if_pos (by decide +kernel)]; kernel_rfl) | (rw [if_neg (by decide +kernel)]; exact ⟨rfl, rfl⟩))
    (fun os started H enc _ => lifted os started H enc)
end checkGuards
end Go.Proofs.Ytgeapgbebbapmaa
