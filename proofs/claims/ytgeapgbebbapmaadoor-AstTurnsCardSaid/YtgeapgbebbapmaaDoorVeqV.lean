/-
  '==' ON TWO VALUES: what the program's comparison of two structs of three fields comes to (the program's own type alone).
-/
import Derived.Test.YtgeapgbebbapmaaDoorPlain
import Derived.Test.YtgeapgbebbapmaaDoorProg
import Derived.Laws.StructEq
import Derived.KernelRfl
import Derived.Tactics
namespace Go.Proofs.YtgeapgbebbapmaaDoor
open Go.RowKit

def veq (a b : V) : Bool := a.k == b.k && (a.n == b.n && a.s.toList == b.s.toList)
theorem veq_iff {a b : V} : veq a b = true ↔ a = b := by
  obtain ⟨k, n, ⟨⟨s⟩⟩⟩ := a
  obtain ⟨k', n', ⟨⟨s'⟩⟩⟩ := b
  have e1 : (⟨⟨s⟩⟩ : ByteArray).toList = s := Lib.toList_data _
  have e2 : (⟨⟨s'⟩⟩ : ByteArray).toList = s' := Lib.toList_data _
  simp [veq, e1, e2]
theorem veq_false {a b : V} (h : a ≠ b) : veq a b = false := by
  cases hv : veq a b
  · rfl
  · exact absurd (veq_iff.1 hv) h

theorem guardVal : Tryd.prog.eqGuardType Tryd.prog.depth 54 = false := by kernel_rfl
theorem heldVal : Tryd.prog.stoodInHeld 54 = false := by kernel_rfl
theorem structVal : Tryd.prog.underlying 54 = some (.struct (Tryd.prog.fieldsOf 54)) := by kernel_rfl
theorem eq_val (a b : V) {x : Bool} (hx : veq a b = x) (w : World) :
    (Op.equalIn 10000 54 (.agg #[.int .i64 a.k, .int .i64 a.n, .string a.s]) (.agg #[.int .i64 b.k, .int .i64 b.n, .string b.s])).run Tryd.prog w = .ok x w := by
  subst hx
  rw [run_equalIn_agg w 9999 _ _ _ structVal heldVal]
  simp [go_sem, Tryd.underlying54, Tryd.underlying3, Tryd.underlying2, Tryd.underlying9]
  unfold veq
  by_cases h1 : a.k = b.k <;> by_cases h2 : a.n = b.n <;> by_cases h3 : a.s.toList = b.s.toList <;> simp [h1, h2, h3]

theorem eq_val3 (k n : Int) (s : ByteArray) (k' n' : Int) (s' : ByteArray) {x : Bool} (hx : veq ⟨k, n, s⟩ ⟨k', n', s'⟩ = x) (w : World) :
    (Op.equalIn 10000 54 (.agg #[.int .i64 k, .int .i64 n, .string s]) (.agg #[.int .i64 k', .int .i64 n', .string s'])).run Tryd.prog w = .ok x w := eq_val ⟨k, n, s⟩ ⟨k', n', s'⟩ hx w

end Go.Proofs.YtgeapgbebbapmaaDoor
