/-
  '==' on terms, conditions and keys.
-/
import Derived.Test.YtgeapgbebbapmaaDoorAst2
import Derived.Test.YtgeapgbebbapmaaDoorVeqV
namespace Go.Proofs.YtgeapgbebbapmaaDoor
open Go.RowKit

theorem guardTrm : Tryd.prog.eqGuardType Tryd.prog.depth 56 = false := by kernel_rfl
theorem heldTrm : Tryd.prog.stoodInHeld 56 = false := by kernel_rfl
theorem structTrm : Tryd.prog.underlying 56 = some (.struct (Tryd.prog.fieldsOf 56)) := by kernel_rfl
theorem guardCnd : Tryd.prog.eqGuardType Tryd.prog.depth 62 = false := by kernel_rfl
theorem heldCnd : Tryd.prog.stoodInHeld 62 = false := by kernel_rfl
theorem structCnd : Tryd.prog.underlying 62 = some (.struct (Tryd.prog.fieldsOf 62)) := by kernel_rfl
theorem guardKey : Tryd.prog.eqGuardType Tryd.prog.depth 44 = false := by kernel_rfl
theorem heldKey : Tryd.prog.stoodInHeld 44 = false := by kernel_rfl
theorem structKey : Tryd.prog.underlying 44 = some (.struct (Tryd.prog.fieldsOf 44)) := by kernel_rfl

theorem eq_key (s : ByteArray) (b : Bool) (s' : ByteArray) (b' : Bool) {x : Bool} (hx : (s.toList == s'.toList && b == b') = x) (w : World) :
    (Op.equalIn 10000 44 (.agg #[.string s, .bool b]) (.agg #[.string s', .bool b'])).run Tryd.prog w = .ok x w := by
  subst hx
  rw [run_equalIn_agg w 9999 _ _ _ structKey heldKey]
  simp [go_sem, Tryd.underlying44, Tryd.underlying4, Tryd.underlying9]
  by_cases h1 : s.toList = s'.toList <;> cases b <;> cases b' <;> simp [h1]

theorem eq_trm (s : ByteArray) (k n : Int) (c : ByteArray) (s' : ByteArray) (k' n' : Int) (c' : ByteArray) {x : Bool} (hx : (s.toList == s'.toList && veq ⟨k, n, c⟩ ⟨k', n', c'⟩) = x) (w : World) :
    (Op.equalIn 10000 56 (.agg #[.string s, .int .i64 k, .int .i64 n, .string c]) (.agg #[.string s', .int .i64 k', .int .i64 n', .string c'])).run Tryd.prog w = .ok x w := by
  subst hx
  rw [run_equalIn_agg w 9999 _ _ _ structTrm heldTrm]
  simp [go_sem, Tryd.underlying56, Tryd.underlying9]
  unfold veq
  by_cases h0 : s.toList = s'.toList <;> by_cases h1 : k = k' <;> by_cases h2 : n = n' <;> by_cases h3 : c.toList = c'.toList <;> simp [h0, h1, h2, h3]

theorem eq_cnd (s : ByteArray) (o k n : Int) (c : ByteArray) (s' : ByteArray) (o' k' n' : Int) (c' : ByteArray) {x : Bool} (hx : (s.toList == s'.toList && (o == o' && veq ⟨k, n, c⟩ ⟨k', n', c'⟩)) = x) (w : World) :
    (Op.equalIn 10000 62 (.agg #[.string s, .int .i64 o, .int .i64 k, .int .i64 n, .string c]) (.agg #[.string s', .int .i64 o', .int .i64 k', .int .i64 n', .string c'])).run Tryd.prog w = .ok x w := by
  subst hx
  rw [run_equalIn_agg w 9999 _ _ _ structCnd heldCnd]
  simp [go_sem, Tryd.underlying62, Tryd.underlying9, Tryd.underlying3]
  unfold veq
  by_cases h0 : s.toList = s'.toList <;> by_cases h4 : o = o' <;> by_cases h1 : k = k' <;> by_cases h2 : n = n' <;> by_cases h3 : c.toList = c'.toList <;> simp [h0, h1, h2, h3, h4]
end Go.Proofs.YtgeapgbebbapmaaDoor
