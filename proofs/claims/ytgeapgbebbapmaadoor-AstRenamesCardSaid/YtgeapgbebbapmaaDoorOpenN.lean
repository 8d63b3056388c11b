/-
  ARGUMENTS OPENED: rows of strings.
-/
import Derived.Test.YtgeapgbebbapmaaDoorOpenQ
namespace Go.Proofs.YtgeapgbebbapmaaDoor
open Go.ChangeShapes Go.WideShapes Go.ChangeAt Go.RowKit Go.Deep

theorem open_nms {H : Type} {enc : TypeId × Value → H} {w : World} {base : Nat} {sp : Nat → Bool} {held : Bool} {t : TypeId} (ht : Tryd.prog.underlying t = some (.slice 9)) {fuel : Nat} {v : Value} {x : DataW H × List MemPlace} (hs : ∃ a len cap, v = .slice a len cap)
    (h : DataW.trod enc Tryd.prog w base sp held fuel t v.cells.toList = some x) : ∃ A l c, v = .slice A (l : List Str).length c ∧ NmsAt w A l ∧ l.length ≤ c ∧ l.length ≤ 9223372036854775807 ∧ ∀ y ∈ l, y.length ≤ 9223372036854775807 := by
  obtain ⟨a, len, cap, rfl⟩ := hs
  obtain ⟨A, l, c, h1, h2⟩ := trod_nms ht h
  have h3 : [Value.slice a len cap] = _ := h1
  injection h3 with h4 _
  exact ⟨A, l, c, h4, h2⟩
end Go.Proofs.YtgeapgbebbapmaaDoor
