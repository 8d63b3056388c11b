/-
  PROVED HERE: the law ordinallaw02.RowTexts answers true for every input and leaves its arguments as they were; the card ties the listed package-level variables to the program's text.
-/
import Derived.Test.YtkoajdbijlpgaaaDoorLaid
import Derived.Test.YtkoajdbijlpgaaaDoorRTexts
import Derived.Test.YtkoajdbijlpgaaaDoorLaid2
import Derived.Test.YtkoajdbijlpgaaaDoorCards
import Derived.Test.YtkoajdbijlpgaaaDoorTie
namespace Go.Proofs.YtkoajdbijlpgaaaDoor
open Go.ChangeShapes Go.WideShapes Go.ChangeAt Go.RowKit Go.Deep

namespace rowTexts
set_option maxRecDepth 100000 in
theorem contract (H : Type) (enc : TypeId × Value → H) (W : World) (base : Nat) (args : Array Value) (ds gs : List (DataW H)) (before : List MemPlace)
    (hval : ∀ (j : Nat) t v, Tryd.f16.params[j]? = some t → args[j]? = some v → Value.okWide Tryd.prog W .any base t v)
    (hW : DataW.Whole enc Tryd.prog Tryd.f16.params.toList Rows.rowTextsSpec.vars false W args.toList ds gs before) (hL : laidMetH Tryd.prog Rows.rowTextsRow.laid W) :
    Calls Tryd.prog 16 args W fun e W' => ∃ v, e = .returned v ∧ Rows.rowTextsSpec.post enc Tryd.prog Tryd.f16 false true false false W args v W' := by
  have hW' := hW
  have hE : Env W := env_of_laid rfl rfl (by simp) (by kernel_rfl) hL
  obtain ⟨p, q, hA0, hV, rfl, hfz, hnd⟩ := hW
  have hA : DataW.TrodAll enc Tryd.prog W 0 (fun _ => true) true Tryd.f16.params.toList args.toList ds p := hA0
  rw [Tryd.params16] at hA hval
  obtain ⟨v0, vs0, d0, ds0, p0, q0, hargs, rfl, rfl, h0, r0⟩ := trodAll_cons hA
  obtain ⟨v1, vs1, d1, ds1, p1, q1, rfl, rfl, rfl, h1, r1⟩ := trodAll_cons r0
  obtain ⟨rfl, rfl, rfl⟩ := trodAll_nil r1
  obtain rfl : args = #[v0, v1] := by cases args; simp_all
  obtain ⟨rfl, rfl⟩ := trodVars_none hV
  obtain ⟨n0, e0⟩ := h0; obtain ⟨A, r, c, rfl, hl0, hr, hwr, hcr⟩ := open_rowc Tryd.underlying23 (okWide_slice Tryd.underlying23 (hval 0 23 v0 rfl rfl)) e0
  obtain ⟨n1, e1⟩ := h1; obtain ⟨s, rfl, hw1⟩ := open_str Tryd.underlying9 (hval 1 9 v1 rfl rfl) e1
  refine (law_rtexts A c r s W hr hwr hE).mono fun e W' ⟨he, hbel⟩ => ?_
  subst he
  exact ⟨_, rfl, law_close laidOut Tryd.underlying4 rfl rfl (by decide +kernel) rfl hW' hbel⟩

def wargs : Array Value := #[.slice none 0 0, .string ⟨#[]⟩]

theorem laid_metH (os : Os) : laidMetH Tryd.prog Rows.rowTextsRow.laid ((laidWorldE os).forCall (fun _ _ => 0) ⟨#[], wargs, []⟩).memory := by
  rw [MakeChecks.laidMetH_plain _ _ _ (by kernel_rfl)]
  exact laidMet_of_run' 8 (by kernel_rfl) (by kernel_rfl)
theorem reads (os : Os) {H : Type} (enc : TypeId × Value → H) : ∃ places, DataW.whole enc Tryd.prog ((laidWorldE os).forCall (fun _ _ => 0) ⟨#[], wargs, []⟩).memory Tryd.f16.params.toList Rows.rowTextsSpec.vars false wargs.toList 8 = some ([.nil, .lit (.string [])], [], places) :=
  ⟨[], by kernel_rfl⟩

set_option maxRecDepth 100000 in
theorem lifted (os : Os) (started : os.Started) (H : Type) (enc : TypeId × Value → H) (F : Stop.Interp) :
    ReturnsInHanded {} Tryd.checked os 16 .any ((OpenSpec.ofChange Rows.rowTextsSpec).preRow enc Tryd.prog Tryd.f16 Rows.rowTextsRow.domain false Rows.rowTextsRow.laid) (((OpenSpec.ofChange Rows.rowTextsSpec).at F).post enc Tryd.prog Tryd.f16 false true false false) := by
  obtain ⟨places, hx⟩ := reads os enc
  refine returnsInHanded_of_row (C := Tryd.checked) (s := OpenSpec.ofChange Rows.rowTextsSpec) own started (by kernel_rfl) Tryd.func16
    (witness_row_at (enc := enc) (C := Tryd.checked) false (laidWorldE os) wargs rfl (by kernel_rfl) (by kernel_rfl) (by kernel_rfl)
      (OpenSpec.preRow_of_cond 8 hx (by kernel_rfl) (fun k hk => by cases hk) (by kernel_rfl) (laid_metH os))) ?_
  intro W base args ds gs before hval hW _ _ _ hL _ _
  exact contract H enc W base args ds gs before hval hW hL

theorem said : Rows.RowTextsSaid :=
  OpenClaim.holds_of_cond 16 Tryd.f16 rfl rfl rfl rfl rfl rfl rfl ⟨rfl, rfl, rfl, rfl, rfl⟩ rfl rfl rfl rfl rfl (by kernel_rfl) Tryd.func16 (by kernel_rfl)
    (of_decide_eq_true (by kernel_rfl)) (by unfold Func.isWrapper; first | (rw [if_pos (by decide +kernel)]; kernel_rfl) | (rw [if_neg (by decide +kernel)]; exact ⟨rfl, rfl⟩))
    (fun os started H enc _ F => by rw [OpenClaim.pre_eq_preRow]; exact lifted os started H enc F)

theorem plain (f : FuncId) (fn : Func) (hf : Tryd.pinned.checked.prog.funcNamed Rows.rowTextsRow.func = some f) (hfn : Tryd.pinned.checked.prog.funcs[f]? = some fn) :
    true = Tryd.pinned.checked.prog.looks [] ∧ ∀ (j : Nat) t, fn.params[j]? = some t → Tryd.pinned.checked.prog.wantsStandIn t = false := by
  obtain rfl : f = 16 := Option.some.inj ((show Tryd.prog.funcNamed Rows.rowTextsRow.func = some 16 by kernel_rfl).symm.trans hf) |>.symm
  obtain rfl : fn = Tryd.f16 := (Option.some.inj (Tryd.func16.symm.trans hfn)).symm
  refine ⟨by kernel_rfl, fun j t ht => ?_⟩
  have hall : (Tryd.f16.params.toList.all fun t => Tryd.prog.wantsStandIn t == false) = true := by kernel_rfl
  have hm := List.all_eq_true.1 hall t (by rw [← Array.mem_def]; exact Array.mem_of_getElem? ht)
  exact (show Tryd.prog.wantsStandIn t = false by simpa using hm)

/-- The card. -/
theorem card : Rows.RowTextsCardSaid :=
  Claim7.holds_tied_plain_at .later [] _ _ _ _ said (fun _ h => by cases h) (by kernel_rfl) (fun _ h => by cases h) rowTexts_row_tie rfl ⟨rfl, rfl⟩ (by kernel_rfl) rfl plain (by kernel_rfl)
end rowTexts
end Go.Proofs.YtkoajdbijlpgaaaDoor
