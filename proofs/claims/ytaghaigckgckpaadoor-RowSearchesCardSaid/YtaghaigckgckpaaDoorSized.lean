/-
  ARGUMENTS' SIZES: what the form says of what was read before the call.
-/
import Derived.Test.YtaghaigckgckpaaDoorLaw
import Derived.Test.YtaghaigckgckpaaDoorPlain
import Derived.Test.YtaghaigckgckpaaDoorProg
namespace Go.Proofs.YtaghaigckgckpaaDoor
open Go.ChangeShapes Go.WideShapes Go.ChangeAt Go.RowKit Go.Deep

theorem sized_cons {H : Type} {t : TypeId} {ts : List TypeId} {d : DataW H} {ds : List (DataW H)} (h : (DataW.weightsEach Tryd.prog (t :: ts) (d :: ds)).all (· ≤ reachBytes) = true) :
    (d.weights Tryd.prog t).all (· ≤ reachBytes) = true ∧ (DataW.weightsEach Tryd.prog ts ds).all (· ≤ reachBytes) = true := by
  rw [DataW.weightsEach, List.all_append, Bool.and_eq_true] at h
  exact h
theorem sized_str {H : Type} {t : TypeId} {s : ByteArray} (h : ((.lit (.string s.data.toList) : DataW H).weights Tryd.prog t).all (· ≤ reachBytes) = true) : s.size ≤ 140737488355328 := by
  have hl : s.data.toList.length = s.size := by simp
  have h2 : decide (s.data.toList.length ≤ reachBytes) = true := by
    rw [DataW.weights, List.all_cons, Bool.and_eq_true] at h
    exact h.1
  have h3 := of_decide_eq_true h2
  unfold reachBytes at h3
  omega
set_option maxRecDepth 100000 in
theorem open_strw {H : Type} {enc : TypeId × Value → H} {w W : World} {base b0 : Nat} {sp : Nat → Bool} {held : Bool} {r : Reach} {n : Nat} {v : Value} {x : DataW H × List MemPlace} {t : TypeId} (ht : Tryd.prog.underlying t = some .string) (hok : Value.okWide Tryd.prog W r b0 t v)
    (h : DataW.trod enc Tryd.prog w base sp held n t v.cells.toList = some x) : ∃ s : ByteArray, v = .string s ∧ x.1 = .lit (.string s.data.toList) := by
  obtain ⟨s, rfl⟩ := okWide_string ht hok
  obtain ⟨s', e, hx, hw⟩ := DataW.trod_string ht h
  simp [Value.cells] at e
  subst e
  exact ⟨s, rfl, by rw [hx]⟩
end Go.Proofs.YtaghaigckgckpaaDoor
