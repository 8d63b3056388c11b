/-
  '==' ON TWO VALUES: what the program's comparison of two structs of three fields comes to (the program's own type alone).
-/
import Derived.Test.YtgeapgbebbapmaaPlain
import Derived.Test.YtgeapgbebbapmaaProg
import Derived.Laws.StructEq
import Derived.KernelRfl
import Derived.Tactics
namespace Go.Proofs.Ytgeapgbebbapmaa
open Go.RowKit

def veq (a b : V) : Bool := a.k == b.k && (a.n == b.n && a.s.toList == b.s.toList)
theorem veq_iff {a b : V} : veq a b = true ↔ a = b := by
  obtain ⟨k, n, ⟨⟨s⟩⟩⟩ := a
  obtain ⟨k', n', ⟨⟨s'⟩⟩⟩ := b
  have e1 : (⟨⟨s⟩⟩ : ByteArray).toList = s := Lib.toList_data _
  have e2 : (⟨⟨s'⟩⟩ : ByteArray).toList = s' := Lib.toList_data _
  simp [veq, e1, e2]
theorem veq_false {a b : V} (h : a ≠ b) : veq a b = false := by
  cases hv : veq a b
  · rfl
  · exact absurd (veq_iff.1 hv) h

theorem guardVal : Try.prog.eqGuardType Try.prog.depth 77 = false := by kernel_rfl
theorem heldVal : Try.prog.stoodInHeld 77 = false := by kernel_rfl
theorem structVal : Try.prog.underlying 77 = some (.struct (Try.prog.fieldsOf 77)) := by kernel_rfl
theorem eq_val (a b : V) {x : Bool} (hx : veq a b = x) (w : World) :
    (Op.equalIn 10000 77 (.agg #[.int .i64 a.k, .int .i64 a.n, .string a.s]) (.agg #[.int .i64 b.k, .int .i64 b.n, .string b.s])).run Try.prog w = .ok x w := by
  subst hx
  rw [run_equalIn_agg w 9999 _ _ _ structVal heldVal]
  simp [go_sem, Try.underlying77, Try.underlying3, Try.underlying2, Try.underlying9]
  unfold veq
  by_cases h1 : a.k = b.k <;> by_cases h2 : a.n = b.n <;> by_cases h3 : a.s.toList = b.s.toList <;> simp [h1, h2, h3]

theorem eq_val3 (k n : Int) (s : ByteArray) (k' n' : Int) (s' : ByteArray) {x : Bool} (hx : veq ⟨k, n, s⟩ ⟨k', n', s'⟩ = x) (w : World) :
    (Op.equalIn 10000 77 (.agg #[.int .i64 k, .int .i64 n, .string s]) (.agg #[.int .i64 k', .int .i64 n', .string s'])).run Try.prog w = .ok x w := eq_val ⟨k, n, s⟩ ⟨k', n', s'⟩ hx w

end Go.Proofs.Ytgeapgbebbapmaa
