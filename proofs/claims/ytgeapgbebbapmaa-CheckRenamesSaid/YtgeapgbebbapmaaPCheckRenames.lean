/-
  PROVED HERE: the law ordinallaw21.CheckRenames answers true for every input and leaves its arguments as they were.
-/
import Derived.Test.YtgeapgbebbapmaaRows
import Derived.Test.YtgeapgbebbapmaaLw21n
import Derived.Test.YtgeapgbebbapmaaLw21e
import Derived.Test.YtgeapgbebbapmaaOpenS
import Derived.OpenShut
import Derived.MakeChecks
import Derived.ProofKit
import Derived.SizedLaws
import Derived.Test.YtgeapgbebbapmaaLaw
namespace Go.Proofs.Ytgeapgbebbapmaa
open Go.ChangeShapes Go.WideShapes Go.ChangeAt Go.RowKit Go.Deep

set_option maxRecDepth 100000 in
theorem open_arr2 {H : Type} {enc : TypeId × Value → H} {w W : World} {base b0 : Nat} {sp : Nat → Bool} {held : Bool} {r : Reach} {n : Nat} {v : Value} {x : DataW H × List MemPlace} {t : TypeId} (ht : Try.prog.underlying t = some (.array 2 9)) (hok : Value.okWide Try.prog W r b0 t v)
    (hct : Try.prog.cellsOf t = 2) (h : DataW.trod enc Try.prog w base sp held n t v.cells.toList = some x) : ∃ n0 n1 : Str, n0.length ≤ 9223372036854775807 ∧ n1.length ≤ 9223372036854775807 ∧ v = .agg #[.string ⟨n0.toArray⟩, .string ⟨n1.toArray⟩] := by
  have hv : ∃ cs, v = .agg cs ∧ cs.size = Try.prog.cellsOf t := by
    simp only [Value.okWide, ht] at hok
    obtain ⟨cs, h1, h2, _⟩ := hok
    exact ⟨cs, h1, h2⟩
  obtain ⟨cs, rfl, hsz⟩ := hv
  rw [hct] at hsz
  obtain ⟨l⟩ := cs
  match l, hsz with
  | [c0, c1], _ =>
    obtain ⟨xs, m, _, _, _, hxl, hf⟩ := DataW.trod_array ht h
    have hc1 : Try.prog.cellsOf 9 = 1 := by kernel_rfl
    match xs, hxl with
    | [y0, y1], _ =>
      have h0 := hf 0 (by omega)
      have h1 := hf 1 (by omega)
      rw [hc1] at h0 h1
      simp only [List.getElem?_cons_zero, List.getElem?_cons_succ] at h0 h1
      obtain ⟨l0, hl0, e0⟩ := trod_str Try.underlying9 h0
      obtain ⟨l1, hl1, e1⟩ := trod_str Try.underlying9 h1
      have g0 : [c0] = _ := e0
      have g1 : [c1] = _ := e1
      injection g0 with g0 _
      injection g1 with g1 _
      subst g0 g1
      exact ⟨l0, l1, hl0, hl1, rfl⟩

namespace checkRenames
theorem own : ownKnob Try.prog.godebug = none := by kernel_rfl
theorem laidOut : laidOutB Try.prog = true := by kernel_rfl
set_option maxRecDepth 100000 in
theorem contract (H : Type) (enc : TypeId × Value → H) (W : World) (base : Nat) (args : Array Value) (ds gs : List (DataW H)) (before : List MemPlace)
    (hval : ∀ (j : Nat) t v, Try.f9.params[j]? = some t → args[j]? = some v → Value.okWide Try.prog W .any base t v)
    (hW : DataW.Whole enc Try.prog Try.f9.params.toList Rows.checkRenamesSpec.vars false W args.toList ds gs before) :
    Calls Try.prog 9 args W fun e W' => ∃ v, e = .returned v ∧ Rows.checkRenamesSpec.post enc Try.prog Try.f9 false true false false W args v W' := by
  have hW' := hW
  obtain ⟨p, q, hA0, hV, rfl, hfz, hnd⟩ := hW
  have hA : DataW.TrodAll enc Try.prog W 0 (fun _ => true) true Try.f9.params.toList args.toList ds p := hA0
  rw [Try.params9] at hA hval
  obtain ⟨v0, vs0, d0, ds0, p0, q0, hargs, rfl, rfl, h0, r0⟩ := trodAll_cons hA
  obtain ⟨v1, vs1, d1, ds1, p1, q1, rfl, rfl, rfl, h1, r1⟩ := trodAll_cons r0
  obtain ⟨v2, vs2, d2, ds2, p2, q2, rfl, rfl, rfl, h2, r2⟩ := trodAll_cons r1
  obtain ⟨rfl, rfl, rfl⟩ := trodAll_nil r2
  obtain rfl : args = #[v0, v1, v2] := by cases args; simp_all
  obtain ⟨rfl, rfl⟩ := trodVars_none hV
  obtain ⟨n0, e0⟩ := h0; obtain ⟨q, A, R, O, ch, cr, co, hw0, rfl, hq⟩ := open_qry (hval 0 26 v0 rfl rfl) e0
  obtain ⟨n1, e1⟩ := h1; obtain ⟨B, S, cs, rfl, hS, hcS, hmS, hwS⟩ := open_schs Try.underlying27 (okWide_slice Try.underlying27 (hval 1 27 v1 rfl rfl)) e1
  obtain ⟨n2, e2⟩ := h2; obtain ⟨n0, n1, hn0, hn1, rfl⟩ := open_arr2 Try.underlying70 (hval 2 70 v2 rfl rfl) (by kernel_rfl) e2
  refine (law_renames law_awake q S n0 n1 A R O B ch cr co cs W hq hS hw0 hwS hmS hn0 hn1).mono fun e W' ⟨he, hbel⟩ => ?_
  subst he
  exact ⟨_, rfl, law_close laidOut Try.underlying4 rfl rfl (by decide +kernel) rfl hW' hbel⟩

set_option maxRecDepth 100000 in
theorem lifted (os : Os) (started : os.Started) (H : Type) (enc : TypeId × Value → H) :
    ReturnsInHanded {} Try.checked os 9 .any (Rows.checkRenamesSpec.pre6 enc Try.prog Try.f9 Rows.checkRenamesRow.domain false) (Rows.checkRenamesSpec.post enc Try.prog Try.f9 false true false false) := by
  refine returnsInHanded_of_change (C := Try.checked) own started (by kernel_rfl) Try.func9
    (ChangeSpec.witness6 (enc := enc) (C := Try.checked) false ⟨#[], #[.agg #[.slice none 0 0, .int .i64 0, .string ⟨#[]⟩, .slice none 0 0, .slice none 0 0], .slice none 0 0, .agg #[.string ⟨#[]⟩, .string ⟨#[]⟩]], []⟩ 8 (by kernel_rfl) (by kernel_rfl) (by kernel_rfl) (by kernel_rfl)) ?_
  intro W base args ds gs before hval hW _ _
  exact contract H enc W base args ds gs before hval hW

theorem said : Rows.CheckRenamesSaid :=
  OpenClaim.holds_of_wide 9 Try.f9 rfl rfl rfl rfl rfl rfl rfl ⟨rfl, rfl, rfl, rfl, rfl⟩ rfl rfl rfl rfl rfl (by kernel_rfl) Try.func9 (by kernel_rfl)
    (of_decide_eq_true (by kernel_rfl)) (by unfold Func.isWrapper; first | (rw [if_pos (by decide +kernel)]; kernel_rfl) | (rw [if_neg (by decide +kernel)]; exact ⟨rfl, rfl⟩))
    (fun os started H enc _ => lifted os started H enc)
end checkRenames
end Go.Proofs.Ytgeapgbebbapmaa
