/-
  PROVED HERE: the law ordinallaw21.CheckTurns answers true for every input and leaves its arguments as they were.
-/
import Derived.Test.YtgeapgbebbapmaaRows
import Derived.Test.YtgeapgbebbapmaaLw21v
import Derived.Test.YtgeapgbebbapmaaLw21e
import Derived.Test.YtgeapgbebbapmaaOpenS
import Derived.Test.YtgeapgbebbapmaaOpenU8
import Derived.MakeChecks
import Derived.ProofKit
import Derived.SizedLaws
import Derived.Test.YtgeapgbebbapmaaLaw
namespace Go.Proofs.Ytgeapgbebbapmaa
open Go.ChangeShapes Go.WideShapes Go.ChangeAt Go.RowKit Go.Deep

namespace checkTurns
theorem own : ownKnob Try.prog.godebug = none := by kernel_rfl
theorem laidOut : laidOutB Try.prog = true := by kernel_rfl
set_option maxRecDepth 100000 in
theorem contract (H : Type) (enc : TypeId × Value → H) (W : World) (base : Nat) (args : Array Value) (ds gs : List (DataW H)) (before : List MemPlace)
    (hval : ∀ (j : Nat) t v, Try.f7.params[j]? = some t → args[j]? = some v → Value.okWide Try.prog W .any base t v)
    (hW : DataW.Whole enc Try.prog Try.f7.params.toList Rows.checkTurnsSpec.vars false W args.toList ds gs before) (hsz : (DataW.weightsEach Try.prog (Try.f7.params.toList ++ Rows.checkTurnsSpec.plain.varTypes Try.prog) (ds ++ gs)).all (· ≤ reachBytes) = true) :
    Calls Try.prog 7 args W fun e W' => ∃ v, e = .returned v ∧ Rows.checkTurnsSpec.post enc Try.prog Try.f7 false true false false W args v W' := by
  have hW' := hW
  obtain ⟨p, q, hA0, hV, rfl, hfz, hnd⟩ := hW
  have hA : DataW.TrodAll enc Try.prog W 0 (fun _ => true) true Try.f7.params.toList args.toList ds p := hA0
  rw [Try.params7] at hA hval hsz
  obtain ⟨v0, vs0, d0, ds0, p0, q0, hargs, rfl, rfl, h0, r0⟩ := trodAll_cons hA
  obtain ⟨v1, vs1, d1, ds1, p1, q1, rfl, rfl, rfl, h1, r1⟩ := trodAll_cons r0
  obtain ⟨v2, vs2, d2, ds2, p2, q2, rfl, rfl, rfl, h2, r2⟩ := trodAll_cons r1
  obtain ⟨rfl, rfl, rfl⟩ := trodAll_nil r2
  obtain rfl : args = #[v0, v1, v2] := by cases args; simp_all
  obtain ⟨rfl, rfl⟩ := trodVars_none hV
  obtain ⟨n0, e0⟩ := h0; obtain ⟨q, A, R, O, ch, cr, co, hw0, rfl, hq⟩ := open_qry (hval 0 26 v0 rfl rfl) e0
  obtain ⟨n1, e1⟩ := h1; obtain ⟨B, S, cs, rfl, hS, hcS, hmS, hwS⟩ := open_schs Try.underlying27 (okWide_slice Try.underlying27 (hval 1 27 v1 rfl rfl)) e1
  obtain ⟨n2, e2⟩ := h2; obtain ⟨tv, htv, rfl⟩ := open_u8 Try.underlying5 (hval 2 5 v2 rfl rfl) e2
  have hr := (sz_qry (w := W) rfl e0 (okW_each hsz).1 hq.rules).2
  refine (law_turns law_awake q S A R O B ch cr co cs tv W hq hS hw0 hwS hmS htv hr).mono fun e W' ⟨he, hbel⟩ => ?_
  subst he
  exact ⟨_, rfl, law_close laidOut Try.underlying4 rfl rfl (by decide +kernel) rfl hW' hbel⟩

set_option maxRecDepth 100000 in
theorem lifted (os : Os) (started : os.Started) (H : Type) (enc : TypeId × Value → H) :
    ReturnsInHanded {} Try.checked os 7 .any (Rows.checkTurnsSpec.pre6 enc Try.prog Try.f7 Rows.checkTurnsRow.domain false) (Rows.checkTurnsSpec.post enc Try.prog Try.f7 false true false false) := by
  refine returnsInHanded_of_change_sized (C := Try.checked) own started (by kernel_rfl) Try.func7
    (ChangeSpec.witness6 (enc := enc) (C := Try.checked) false ⟨#[], #[.agg #[.slice none 0 0, .int .i64 0, .string ⟨#[]⟩, .slice none 0 0, .slice none 0 0], .slice none 0 0, .int .u8 0], []⟩ 8 (by kernel_rfl) (by kernel_rfl) (by kernel_rfl) (by kernel_rfl)) ?_
  intro W base args ds gs before hval hW _ hsz _
  exact contract H enc W base args ds gs before hval hW hsz

theorem said : Rows.CheckTurnsSaid :=
  OpenClaim.holds_of_wide 7 Try.f7 rfl rfl rfl rfl rfl rfl rfl ⟨rfl, rfl, rfl, rfl, rfl⟩ rfl rfl rfl rfl rfl (by kernel_rfl) Try.func7 (by kernel_rfl)
    (of_decide_eq_true (by kernel_rfl)) (by unfold Func.isWrapper; first | (rw [if_pos (by decide +kernel)]; kernel_rfl) | (rw [if_neg (by decide +kernel)]; exact ⟨rfl, rfl⟩))
    (fun os started H enc _ => lifted os started H enc)
end checkTurns
end Go.Proofs.Ytgeapgbebbapmaa
