/-
  PLAIN: names, byte by byte.
-/
import Derived.Test.YtgeapgbebbapmaaDoorAst1
namespace Go.Proofs.YtgeapgbebbapmaaDoor

/-- May the byte stand at the place k of a name? -/
def okAt (k : Nat) (c : UInt8) : Bool := letQ c || (decide (0 < k) && (c == 95 || (decide (48 ≤ c.toNat) && decide (c.toNat ≤ 57))))
def catFrom : Nat → List UInt8 → Bool
  | _, [] => true
  | k, c :: r => okAt k c && catFrom (k + 1) r
theorem okAt_pos {k : Nat} (h : 0 < k) (c : UInt8) : okAt k c = wrdQ c := by
  unfold okAt wrdQ
  rw [decide_eq_true h, Bool.true_and, Bool.or_assoc]
theorem okAt_zero (c : UInt8) : okAt 0 c = letQ c := by
  unfold okAt; simp
theorem catFrom_pos : ∀ (l : List UInt8) (k : Nat), 0 < k → catFrom k l = l.all wrdQ
  | [], _, _ => rfl
  | c :: r, k, h => by rw [catFrom, okAt_pos h, catFrom_pos r (k + 1) (by omega), List.all_cons]
theorem catB_from (l : Str) : catB l = (decide (0 < l.length) && (decide (l.length ≤ 16) && catFrom 0 l)) := by
  unfold catB
  match l with
  | [] => rfl
  | c :: r =>
    rw [catFrom, okAt_zero, catFrom_pos r 1 (by omega)]; rfl
theorem catFrom_end {l : List UInt8} {k : Nat} (h : ¬ k < l.length) : catFrom k (l.drop k) = true := by
  rw [List.drop_eq_nil_of_le (by omega)]; rfl
theorem catFrom_on {l : List UInt8} {k : Nat} (h : k < l.length) (h1 : okAt k l[k] = true) : catFrom k (l.drop k) = catFrom (k + 1) (l.drop (k + 1)) := by
  rw [List.drop_eq_getElem_cons h, catFrom, h1, Bool.true_and]
theorem catFrom_bad {l : List UInt8} {k : Nat} (h : k < l.length) (h1 : okAt k l[k] = false) : catFrom k (l.drop k) = false := by
  rw [List.drop_eq_getElem_cons h, catFrom, h1, Bool.false_and]
end Go.Proofs.YtgeapgbebbapmaaDoor
