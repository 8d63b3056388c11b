/-
  PARTS of a claim, merged by segs.py: Rt3.
-/
import Derived.Test.YtjhnopnppimnhaaGreatDoorZ17
import Derived.Test.YtjhnopnppimnhaaGreatDoorZ15
namespace Go.Proofs.YtjhnopnppimnhaaGreatDoor

/-! ### Rt3 -/
section
open Go.RowKit

theorem sz_ne {n : Nat} (h : 0 < n) : ((n : Int) == 0) = false := by simp; omega
theorem list_ne {s : ByteArray} (h : 0 < s.size) : s.data.toList ≠ [] := by
  intro e
  have h1 : s.data.toList.length = s.size := by simp
  rw [e] at h1
  simp at h1; omega

theorem run_step {lim n : Nat} {d : List UInt8} {c : UInt8} {bg : Bool} (h : Run lim d n bg) (hc : c.toNat - 48 ≤ lim) : ((lim - (c.toNat - 48)) / 10 < n → ∀ m, Run lim (d ++ [c]) m true) ∧ (¬ (lim - (c.toNat - 48)) / 10 < n → (bg = true → ∀ m, Run lim (d ++ [c]) m true) ∧ (bg = false → Run lim (d ++ [c]) (n * 10 + (c.toNat - 48)) false)) := by
  refine ⟨fun ho m => ?_, fun ho => ⟨fun hb m => ?_, fun hb => ?_⟩⟩
  · cases bg
    · exact run_over h ho m hc
    · exact run_big h m
  · subst hb; exact run_big h m
  · subst hb; exact run_digit h ho hc

theorem run_to {lim m n : Nat} {d : List UInt8} {b : Bool} (h : Run lim d n b) (e : m = n) : Run lim d m b := by rw [e]; exact h

theorem pInt2_form (l d : List UInt8) (ng : Bool) (T : Nat) (hd : d = magL l) (hn : negL l = ng) (hT : topL l = T) : pInt2 l = if digs (d.drop 0) = false then (V0, 15) else if T < numVal d then (V0, 3) else (intV1 (if ng = true then - (numVal d : Int) else numVal d), 0) := by
  subst hd hn hT; rfl
theorem u64_in (x : Int) : 0 ≤ IntKind.u64.wrap x ∧ IntKind.u64.wrap x ≤ 18446744073709551615 := by
  simp [IntKind.wrap, IntKind.signed, IntKind.bits]; omega
theorem u64_id (x : Int) (h0 : 0 ≤ x) (h1 : x ≤ 18446744073709551615) : IntKind.u64.wrap x = x := by
  simp [IntKind.wrap, IntKind.signed, IntKind.bits]; omega
theorem take_snoc' (D : ByteArray) (k : Nat) (h : k < D.size) : D.data.toList.take (k + 1) = D.data.toList.take k ++ [D[k]] := by
  rw [List.take_succ_eq_append_getElem (by simpa using h)]; rfl
theorem first_of {s : ByteArray} (h : 0 < s.size) : s.data.toList.getD 0 0 = s[0] := getD_of h
theorem neg_yes {s : ByteArray} (h : 0 < s.size) (h' : s[0].toNat = 45) : negL s.data.toList = true ∧ magL s.data.toList = s.data.toList.drop 1 ∧ topL s.data.toList = 9223372036854775808 := by
  have e : negL s.data.toList = true := by unfold negL; rw [first_of h]; have : s[0] = 45 := UInt8.toNat.inj h'; rw [this]; rfl
  unfold magL topL; rw [e]; exact ⟨rfl, rfl, rfl⟩
theorem neg_no {s : ByteArray} (h : 0 < s.size) (h' : s[0].toNat ≠ 45) : negL s.data.toList = false ∧ magL s.data.toList = s.data.toList ∧ topL s.data.toList = 9223372036854775807 := by
  have e : negL s.data.toList = false := by unfold negL; rw [first_of h]; simpa using fun e => h' (congrArg UInt8.toNat e)
  unfold magL topL; rw [e]; exact ⟨rfl, rfl, rfl⟩
theorem back_neg (N : Int) (h0 : 0 ≤ N) (h1 : N ≤ 9223372036854775808) : wrap64 (IntKind.u64.wrap (-N)) = -N := by
  simp [wrap64, IntKind.wrap, IntKind.signed, IntKind.bits]; omega
theorem back_pos (N : Int) (h0 : 0 ≤ N) (h1 : N ≤ 9223372036854775807) : wrap64 N = N := by
  simp [wrap64]; omega

end
end Go.Proofs.YtjhnopnppimnhaaGreatDoor
