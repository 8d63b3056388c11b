/-
  WALK: value.Valid (alone: for seats without value.Text).
-/
import Derived.Test.YtgeapgbebbapmaaDoorPlain
import Derived.Test.YtgeapgbebbapmaaDoorKit
import Derived.Test.YtgeapgbebbapmaaDoorProg
import Derived.RegionTactic
import Derived.StillTailTactics
namespace Go.Proofs.YtgeapgbebbapmaaDoor
open Go.RowKit

set_option maxHeartbeats 400000 in
theorem val_valid (v : V) (w : World) {x : Bool} (hx : v.valid = x) :
    Calls Tryd.prog 73 #[.agg #[.int .i64 v.k, .int .i64 v.n, .string v.s]] w fun e w' => e = .returned (.bool x) ∧ Below w.heap.size w w' := by
  obtain ⟨k, n, s⟩ := v
  have hb := below_one w (.cells #[.int .i64 k, .int .i64 n, .string s] 54)
  by_cases h1 : k = 1
  · have H : Hid (s.toList.isEmpty = x) := hid (by rw [← hx]; simp [V.valid, h1])
    clear hx
    subst h1
    go_enter Tryd.func73, Tryd.ntmps73
    go_wp2
    go_ret
    exact ⟨ret_b H.out, hb⟩
  · have b1 : (k == 1) = false := by simpa using h1
    by_cases h2 : k = 2
    · by_cases h3 : n = 0
      · have H : Hid (decide (s.size ≤ 24) = x) := hid (by rw [← hx]; simp [V.valid, h2, h3])
        clear hx
        subst h2 h3
        go_enter Tryd.func73, Tryd.ntmps73
        go_wp2
        go_ret
        exact ⟨ret_b (by rw [← H.out]; simp; omega), hb⟩
      · have b3 : (n == 0) = false := by simpa using h3
        have H : Hid (false = x) := hid (by rw [← hx]; simp [V.valid, h2, h3])
        clear hx
        subst h2
        go_enter Tryd.func73, Tryd.ntmps73
        go_wp2
        go_ret
        exact ⟨ret_b H.out, hb⟩
    · have b2 : (k == 2) = false := by simpa using h2
      have H : Hid (false = x) := hid (by rw [← hx]; simp [V.valid, h1, h2])
      clear hx h1 h2
      go_enter Tryd.func73, Tryd.ntmps73
      go_wp2
      go_ret
      exact ⟨ret_b H.out, hb⟩

end Go.Proofs.YtgeapgbebbapmaaDoor
