/-
  PROVED HERE: the law ordinallaw57.SchedNests answers true for every input of bulk at most 1048576, on every schedule and without a race, and leaves its arguments as they were.
-/
import Derived.Test.YtggfcdhkgldbfaaN48
import Derived.Test.YtggfcdhkgldbfaaN49
namespace Go.Proofs.Ytggfcdhkgldbfaa
open Go Go.ChangeShapes Go.WideShapes Go.ChangeAt Go.RowKit Cw

namespace schedNests
theorem own : ownKnob Try.prog.godebug = none := by kernel_rfl
theorem laidOut : laidOutB Try.prog = true := by kernel_rfl
set_option maxRecDepth 100000 in
theorem lifted (os : Os) (started : os.Started) (H : Type) (enc : TypeId × Value → H) (F : Stop.Interp) :
    ReturnsInLeavingWide {} Try.checked os 5 .any ((Rows.OpenSpec.upto Rows.schedNestsSpec).pre6 enc Try.prog Try.f5 Rows.schedNestsUptoRow.domain false) (((Rows.OpenSpec.upto Rows.schedNestsSpec).at F).post enc Try.prog Try.f5 false true false false) := by
  refine leaving_of_cond (C := Try.checked) (s := Rows.OpenSpec.upto Rows.schedNestsSpec) (k := Rows.uptoSmall) rfl own started Try.func5
    (OpenSpec.witness (enc := enc) (C := Try.checked) (s := Rows.OpenSpec.upto Rows.schedNestsSpec) (k := Rows.uptoSmall) rfl false ⟨#[], #[.slice none 0 0, .slice none 0 0, .slice none 0 0], []⟩ 8 (by kernel_rfl) (by kernel_rfl) (by kernel_rfl)
      (x := ([.nil, .nil, .nil], [], [])) (by kernel_rfl) rfl (by kernel_rfl)) ?_
  intro W base args ds gs before hval0 hW hk
  have hval : ∀ (j : Nat) t v, Try.f5.params[j]? = some t → args[j]? = some v → Value.okWide Try.prog W .any base t v := hval0
  have hW' := hW
  obtain ⟨p, q, hA0, hV, rfl, _, _⟩ := hW
  have hA : DataW.TrodAll enc Try.prog W 0 (fun _ => true) true Try.f5.params.toList args.toList ds p := hA0
  rw [Try.params5] at hA hval
  obtain ⟨v0, v1, v2, d0, d1, d2, p0, p1, p2, rfl, rfl, rfl, h0, h1, h2⟩ := trodAll_three hA
  obtain ⟨rfl, rfl⟩ := trodVars_none hV
  clear hA0 hval0
  simp only [List.append_nil] at hW' hk
  have hb : Rows.uptoBulkAll [d0, d1, d2] ≤ 1048576 := of_decide_eq_true hk
  simp only [Rows.uptoBulkAll] at hb
  obtain ⟨ps, hp, hpl, hpx⟩ := open_u8row Try.underlying22 (okWide_slice Try.underlying22 (hval 0 22 v0 rfl rfl)) h0
  obtain ⟨qs, hq, hql, hqx⟩ := open_u8row Try.underlying22 (okWide_slice Try.underlying22 (hval 1 22 v1 rfl rfl)) h1
  obtain ⟨L, hL, hLl, hLs⟩ := open_strrows Try.underlying23 (okWide_slice Try.underlying23 (hval 2 23 v2 rfl rfl)) h2
  obtain ⟨M, last, o, w', t', r1, r2, r3, r4⟩ := law_nests W hp hq hL (by omega) (by omega) hpx hqx (by omega) (fun S hS => by have := hLs S hS; omega)
  refine ⟨M, last, o, w', t', r1, r2, r3, r4.mono fun v hF => ?_⟩
  obtain ⟨rfl, hl⟩ := hF
  exact left_close laidOut Try.underlying4 rfl rfl (by decide +kernel) rfl hW' hl

theorem said : Rows.SchedNestsUptoSaid :=
  holds_leaving_cond 5 Try.f5 rfl rfl rfl rfl rfl rfl rfl ⟨rfl, rfl, rfl, rfl, rfl⟩ rfl rfl rfl rfl rfl (by kernel_rfl) Try.func5 (by kernel_rfl)
    (of_decide_eq_true (by kernel_rfl)) (by unfold Func.isWrapper; first | (rw [if_pos (by decide +kernel)]; kernel_rfl) | (rw [if_neg (by decide +kernel)]; exact ⟨rfl, rfl⟩))
    (fun os started H enc F => lifted os started H enc F)
end schedNests
end Go.Proofs.Ytggfcdhkgldbfaa
