/-
  ARGUMENTS OPENED: a string.
-/
import Derived.Test.YtgeapgbebbapmaaDoorOpenQ
namespace Go.Proofs.YtgeapgbebbapmaaDoor
open Go.ChangeShapes Go.WideShapes Go.ChangeAt Go.RowKit Go.Deep

set_option maxRecDepth 100000 in
theorem open_str {H : Type} {enc : TypeId × Value → H} {w W : World} {base b0 : Nat} {sp : Nat → Bool} {held : Bool} {r : Reach} {n : Nat} {v : Value} {x : DataW H × List MemPlace} {t : TypeId} (ht : Tryd.prog.underlying t = some .string) (hok : Value.okWide Tryd.prog W r b0 t v)
    (h : DataW.trod enc Tryd.prog w base sp held n t v.cells.toList = some x) : ∃ s : ByteArray, v = .string s ∧ s.size ≤ 9223372036854775807 := by
  obtain ⟨s, rfl⟩ := okWide_string ht hok
  obtain ⟨s', e, _, hw⟩ := DataW.trod_string ht h
  simp [Value.cells] at e
  subst e
  exact ⟨s, rfl, hw⟩
end Go.Proofs.YtgeapgbebbapmaaDoor
