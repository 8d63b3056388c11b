/-
  WALKS: cmp.Compare at int and int64, value.Compare.
-/
import Derived.Test.YtaghaigckgckpaaDoorPlain
import Derived.Test.YtaghaigckgckpaaDoorShelf
import Derived.Test.YtaghaigckgckpaaDoorKit
namespace Go.Proofs.YtaghaigckgckpaaDoor
open Go.RowKit

theorem cmpInt_lt {a b : Int} (h : a < b) : Lib.compareInt a b = -1 := by simp [Lib.compareInt, h]
theorem cmpInt_gt {a b : Int} (h : b < a) : Lib.compareInt a b = 1 := by
  unfold Lib.compareInt; rw [if_neg (by omega), if_pos h]
theorem cmpInt_eq {a b : Int} (h : a = b) : Lib.compareInt a b = 0 := by
  unfold Lib.compareInt; rw [if_neg (by omega), if_neg (by omega)]

set_option maxHeartbeats 400000 in
theorem cmp_int (a b : Int) (w : World) :
    Calls Tryd.prog 41 #[.int .i64 a, .int .i64 b] w fun e w' => e = .returned (.int .i64 (Lib.compareInt a b)) ∧ w = w' := by
  rcases Int.lt_trichotomy a b with h | h | h
  · have H := hid (cmpInt_lt h)
    go_enter Tryd.func41, Tryd.ntmps41
    go_wp2
    go_ret
    exact ⟨ret_i H.out.symm, rfl⟩
  · have H := hid (cmpInt_eq h)
    subst h
    go_enter Tryd.func41, Tryd.ntmps41
    go_wp2
    go_ret
    exact ⟨ret_i H.out.symm, rfl⟩
  · have H := hid (cmpInt_gt h)
    go_enter Tryd.func41, Tryd.ntmps41
    go_wp2
    go_ret
    exact ⟨ret_i H.out.symm, rfl⟩

set_option maxHeartbeats 400000 in
theorem cmp_int64 (a b : Int) (w : World) :
    Calls Tryd.prog 42 #[.int .i64 a, .int .i64 b] w fun e w' => e = .returned (.int .i64 (Lib.compareInt a b)) ∧ w = w' := by
  rcases Int.lt_trichotomy a b with h | h | h
  · have H := hid (cmpInt_lt h)
    go_enter Tryd.func42, Tryd.ntmps42
    go_wp2
    go_ret
    exact ⟨ret_i H.out.symm, rfl⟩
  · have H := hid (cmpInt_eq h)
    subst h
    go_enter Tryd.func42, Tryd.ntmps42
    go_wp2
    go_ret
    exact ⟨ret_i H.out.symm, rfl⟩
  · have H := hid (cmpInt_gt h)
    go_enter Tryd.func42, Tryd.ntmps42
    go_wp2
    go_ret
    exact ⟨ret_i H.out.symm, rfl⟩

theorem strings_cmp (a b : ByteArray) (w : World) :
    Calls Tryd.prog 43 #[.string a, .string b] w fun e w' => e = .returned (.int .i64 (Lib.compareBytes a.data.toList b.data.toList)) ∧ w = w' :=
  (Tryd.strings_Compare a b w).mono fun _ _ ⟨h, h'⟩ => ⟨h, h'.symm⟩

set_option maxHeartbeats 400000 in
theorem value_cmp (a b : V) (w : World) {x : Int} (hx : V.cmp a b = x) :
    Calls Tryd.prog 34 #[.agg #[.int .i64 a.k, .int .i64 a.n, .string a.s], .agg #[.int .i64 b.k, .int .i64 b.n, .string b.s]] w fun e w' => e = .returned (.int .i64 x) ∧ Below w.heap.size w w' := by
  obtain ⟨k, n, s⟩ := a
  obtain ⟨k', n', s'⟩ := b
  have hb := below_two w (.cells #[.int .i64 k, .int .i64 n, .string s] 43) (.cells #[.int .i64 k', .int .i64 n', .string s'] 43)
  by_cases h1 : k = k'
  · by_cases h2 : n = n'
    · have H := hid ((V.cmp_s h1 h2).symm.trans hx)
      clear hx
      subst h1 h2
      go_enter Tryd.func34, Tryd.ntmps34
      go_wp2_with (go_at_call 43; refine (strings_cmp _ _ _).mono ?_; rintro e w' ⟨rfl, rfl⟩)
      go_ret
      exact ⟨ret_i H.out, hb⟩
    · have H := hid ((V.cmp_n h1 h2).symm.trans hx)
      clear hx
      have h2' : (n != n') = true := by simpa using h2
      subst h1
      go_enter Tryd.func34, Tryd.ntmps34
      go_wp2_with (go_at_call 42; refine (cmp_int64 _ _ _).mono ?_; rintro e w' ⟨rfl, rfl⟩)
      go_ret
      exact ⟨ret_i H.out, hb⟩
  · have H := hid ((V.cmp_k h1).symm.trans hx)
    clear hx
    have h1' : (k != k') = true := by simpa using h1
    go_enter Tryd.func34, Tryd.ntmps34
    go_wp2_with (go_at_call 41; refine (cmp_int _ _ _).mono ?_; rintro e w' ⟨rfl, rfl⟩)
    go_ret
    exact ⟨ret_i H.out, hb⟩
end Go.Proofs.YtaghaigckgckpaaDoor
