/-
  PARTS of a claim, merged by segs.py: Sm1.
-/
import Derived.Test.YtnbacdmlaedppaaGreatDoorQ07
import Derived.Test.YtnbacdmlaedppaaGreatDoorQ08
namespace Go.Proofs.YtnbacdmlaedppaaGreatDoor

/-! ### Sm1 -/
section
open Go.RowKit

theorem guardTrm : Tryz.prog.eqGuardType Tryz.prog.depth 146 = false := by kernel_rfl
theorem heldTrm : Tryz.prog.stoodInHeld 146 = false := by kernel_rfl
theorem structTrm : Tryz.prog.underlying 146 = some (.struct (Tryz.prog.fieldsOf 146)) := by kernel_rfl
theorem guardCnd : Tryz.prog.eqGuardType Tryz.prog.depth 115 = false := by kernel_rfl
theorem heldCnd : Tryz.prog.stoodInHeld 115 = false := by kernel_rfl
theorem structCnd : Tryz.prog.underlying 115 = some (.struct (Tryz.prog.fieldsOf 115)) := by kernel_rfl
theorem guardKey : Tryz.prog.eqGuardType Tryz.prog.depth 37 = false := by kernel_rfl
theorem heldKey : Tryz.prog.stoodInHeld 37 = false := by kernel_rfl
theorem structKey : Tryz.prog.underlying 37 = some (.struct (Tryz.prog.fieldsOf 37)) := by kernel_rfl

theorem eq_key (s : ByteArray) (b : Bool) (s' : ByteArray) (b' : Bool) {x : Bool} (hx : (s.toList == s'.toList && b == b') = x) (w : World) :
    (Op.equalIn 10000 37 (.agg #[.string s, .bool b]) (.agg #[.string s', .bool b'])).run Tryz.prog w = .ok x w := by
  subst hx
  rw [run_equalIn_agg w 9999 _ _ _ structKey heldKey]
  simp [go_sem, Tryz.underlying37, Tryz.underlying4, Tryz.underlying9]
  by_cases h1 : s.toList = s'.toList <;> cases b <;> cases b' <;> simp [h1]

theorem eq_trm (s : ByteArray) (k n : Int) (c : ByteArray) (s' : ByteArray) (k' n' : Int) (c' : ByteArray) {x : Bool} (hx : (s.toList == s'.toList && veq ⟨k, n, c⟩ ⟨k', n', c'⟩) = x) (w : World) :
    (Op.equalIn 10000 146 (.agg #[.string s, .int .i64 k, .int .i64 n, .string c]) (.agg #[.string s', .int .i64 k', .int .i64 n', .string c'])).run Tryz.prog w = .ok x w := by
  subst hx
  rw [run_equalIn_agg w 9999 _ _ _ structTrm heldTrm]
  simp [go_sem, Tryz.underlying146, Tryz.underlying9]
  unfold veq
  by_cases h0 : s.toList = s'.toList <;> by_cases h1 : k = k' <;> by_cases h2 : n = n' <;> by_cases h3 : c.toList = c'.toList <;> simp [h0, h1, h2, h3]

theorem eq_cnd (s : ByteArray) (o k n : Int) (c : ByteArray) (s' : ByteArray) (o' k' n' : Int) (c' : ByteArray) {x : Bool} (hx : (s.toList == s'.toList && (o == o' && veq ⟨k, n, c⟩ ⟨k', n', c'⟩)) = x) (w : World) :
    (Op.equalIn 10000 115 (.agg #[.string s, .int .i64 o, .int .i64 k, .int .i64 n, .string c]) (.agg #[.string s', .int .i64 o', .int .i64 k', .int .i64 n', .string c'])).run Tryz.prog w = .ok x w := by
  subst hx
  rw [run_equalIn_agg w 9999 _ _ _ structCnd heldCnd]
  simp [go_sem, Tryz.underlying115, Tryz.underlying9, Tryz.underlying3]
  unfold veq
  by_cases h0 : s.toList = s'.toList <;> by_cases h4 : o = o' <;> by_cases h1 : k = k' <;> by_cases h2 : n = n' <;> by_cases h3 : c.toList = c'.toList <;> simp [h0, h1, h2, h3, h4]
end
end Go.Proofs.YtnbacdmlaedppaaGreatDoor
