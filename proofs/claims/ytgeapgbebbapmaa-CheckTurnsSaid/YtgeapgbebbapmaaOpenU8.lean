/-
  ARGUMENTS OPENED: a number of eight bits.
-/
import Derived.Test.YtgeapgbebbapmaaOpenQ
namespace Go.Proofs.Ytgeapgbebbapmaa
open Go.ChangeShapes Go.WideShapes Go.ChangeAt Go.RowKit Go.Deep

set_option maxRecDepth 100000 in
theorem open_u8 {H : Type} {enc : TypeId × Value → H} {w W : World} {base b0 : Nat} {sp : Nat → Bool} {held : Bool} {r : Reach} {n : Nat} {v : Value} {x : DataW H × List MemPlace} {t : TypeId} (ht : Try.prog.underlying t = some (.int .u8)) (hok : Value.okWide Try.prog W r b0 t v)
    (h : DataW.trod enc Try.prog w base sp held n t v.cells.toList = some x) : ∃ k : Nat, k < 256 ∧ v = .int .u8 k := by
  obtain ⟨m, rfl⟩ := okWide_int ht hok
  obtain ⟨k, e, _, hw⟩ := DataW.trod_int ht h
  have e2 : [Value.int .u8 m] = [Value.int .u8 k] := e
  injection e2 with e2 _
  injection e2 with _ e2
  subst e2
  simp [Lit.wf, IntKind.min, IntKind.max, IntKind.signed, IntKind.bits] at hw
  exact ⟨m.toNat, by omega, by rw [Int.toNat_of_nonneg (by omega)]⟩
end Go.Proofs.Ytgeapgbebbapmaa
