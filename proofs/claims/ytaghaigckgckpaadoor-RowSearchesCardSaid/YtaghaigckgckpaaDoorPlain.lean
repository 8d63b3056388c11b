/-
  PLAIN: the values of the database as Lean data, and their order. Imports nothing of the program.
-/
import Derived.Lib.Bytealg
import Derived.Lib.Small
import Derived.Lib.ItoaNum
import Derived.Lib.ItoaLen
namespace Go.Proofs.YtaghaigckgckpaaDoor

/-- A value: kind, integer, string. -/
structure V where
  k : Int
  n : Int
  s : ByteArray

/-- The order of values. -/
def V.cmp (a b : V) : Int :=
  if a.k ≠ b.k then Lib.compareInt a.k b.k else if a.n ≠ b.n then Lib.compareInt a.n b.n else Lib.compareBytes a.s.data.toList b.s.data.toList

theorem V.cmp_k {a b : V} (h : a.k ≠ b.k) : V.cmp a b = Lib.compareInt a.k b.k := by unfold V.cmp; rw [if_pos h]
theorem V.cmp_n {a b : V} (h : a.k = b.k) (h' : a.n ≠ b.n) : V.cmp a b = Lib.compareInt a.n b.n := by unfold V.cmp; rw [if_neg (by simpa using h), if_pos h']
theorem V.cmp_s {a b : V} (h : a.k = b.k) (h' : a.n = b.n) : V.cmp a b = Lib.compareBytes a.s.data.toList b.s.data.toList := by unfold V.cmp; rw [if_neg (by simpa using h), if_neg (by simpa using h')]

theorem compareInt_range (a b : Int) : -1 ≤ Lib.compareInt a b ∧ Lib.compareInt a b ≤ 1 := by
  unfold Lib.compareInt
  by_cases h : a < b
  · rw [if_pos h]; omega
  · rw [if_neg h]
    by_cases h' : a > b
    · rw [if_pos h']; omega
    · rw [if_neg h']; omega

theorem compareBytes_range : ∀ a b : List UInt8, -1 ≤ Lib.compareBytes a b ∧ Lib.compareBytes a b ≤ 1
  | [], [] => by simp [Lib.compareBytes]
  | [], _ :: _ => by simp [Lib.compareBytes]
  | _ :: _, [] => by simp [Lib.compareBytes]
  | a :: as, b :: bs => by
    unfold Lib.compareBytes
    by_cases h : a < b
    · rw [if_pos h]; omega
    · rw [if_neg h]
      by_cases h' : b < a
      · rw [if_pos h']; omega
      · rw [if_neg h']; exact compareBytes_range as bs

theorem V.cmp_range (a b : V) : -1 ≤ V.cmp a b ∧ V.cmp a b ≤ 1 := by
  unfold V.cmp
  by_cases h : a.k ≠ b.k
  · rw [if_pos h]; exact compareInt_range _ _
  · rw [if_neg h]
    by_cases h' : a.n ≠ b.n
    · rw [if_pos h']; exact compareInt_range _ _
    · rw [if_neg h']; exact compareBytes_range _ _

/-- The order of rows; d: which columns are descending. -/
def rowCmp : List Bool → List V → List V → Int
  | _, [], [] => 0
  | _, [], _ :: _ => -1
  | _, _ :: _, [] => 1
  | d, a :: as, b :: bs => if V.cmp a b = 0 then rowCmp d.tail as bs else if d.headD false then - V.cmp a b else V.cmp a b

theorem rowCmp_range : ∀ (d : List Bool) (a b : List V), -1 ≤ rowCmp d a b ∧ rowCmp d a b ≤ 1
  | _, [], [] => by simp [rowCmp]
  | _, [], _ :: _ => by simp [rowCmp]
  | _, _ :: _, [] => by simp [rowCmp]
  | d, a :: as, b :: bs => by
    unfold rowCmp
    have := V.cmp_range a b
    by_cases h : V.cmp a b = 0
    · rw [if_pos h]; exact rowCmp_range _ as bs
    · rw [if_neg h]
      cases d.headD false
      · rw [if_neg (by simp)]; omega
      · rw [if_pos rfl]; omega

theorem rowCmp_step {d : List Bool} {a b : List V} {k : Nat} (h : k < a.length) (h' : k < b.length) (e : V.cmp a[k] b[k] = 0) :
    rowCmp (d.drop k) (a.drop k) (b.drop k) = rowCmp (d.drop (k + 1)) (a.drop (k + 1)) (b.drop (k + 1)) := by
  rw [List.drop_eq_getElem_cons h, List.drop_eq_getElem_cons h']
  simp only [rowCmp, e, if_true, List.tail_drop]

theorem rowCmp_stop {d : List Bool} {a b : List V} {k : Nat} (h : k < a.length) (h' : k < b.length) (e : V.cmp a[k] b[k] ≠ 0) :
    rowCmp (d.drop k) (a.drop k) (b.drop k) = if d.getD k false then - V.cmp a[k] b[k] else V.cmp a[k] b[k] := by
  rw [List.drop_eq_getElem_cons h, List.drop_eq_getElem_cons h']
  simp only [rowCmp, e, if_false]
  have : (d.drop k).headD false = d.getD k false := by simp [List.headD_eq_head?_getD, List.head?_drop]
  rw [this]

theorem rowCmp_end {d : List Bool} {a b : List V} {k : Nat} (h : k ≤ a.length) (h' : k ≤ b.length) (hk : k = a.length ∨ k = b.length) :
    rowCmp (d.drop k) (a.drop k) (b.drop k) = if a.length < b.length then -1 else if b.length < a.length then 1 else 0 := by
  rcases hk with hk | hk
  · have e : a.drop k = [] := List.drop_eq_nil_of_le (by omega)
    rw [e]
    by_cases hl : a.length < b.length
    · rw [if_pos hl, List.drop_eq_getElem_cons (show k < b.length by omega)]; rfl
    · have e' : b.drop k = [] := List.drop_eq_nil_of_le (by omega)
      rw [if_neg hl, if_neg (by omega), e']; rfl
  · have e : b.drop k = [] := List.drop_eq_nil_of_le (by omega)
    rw [e]
    by_cases hl : b.length < a.length
    · rw [if_neg (by omega), if_pos hl, List.drop_eq_getElem_cons (show k < a.length by omega)]; rfl
    · have e' : a.drop k = [] := List.drop_eq_nil_of_le (by omega)
      rw [if_neg (by omega), if_neg hl, e']; rfl

/-- Is it a valid value? -/
def V.valid (v : V) : Bool := if v.k = 1 then v.s.toList.isEmpty else if v.k = 2 then decide (v.n = 0) && decide (v.s.size ≤ 24) else false

/-- A hexadecimal digit. -/
def hexd (n : Nat) : UInt8 := if n < 10 then (48 + n).toUInt8 else (87 + n).toUInt8

/-- The spelling of a byte in a literal. -/
def spell (c : UInt8) : List UInt8 :=
  if c.toNat = 34 ∨ c.toNat = 92 then [92, c] else if c.toNat = 10 then [92, 110] else if c.toNat = 9 then [92, 116]
  else if 32 ≤ c.toNat ∧ c.toNat ≤ 126 then [c] else [92, 120, hexd (c.toNat / 16), hexd (c.toNat % 16)]

theorem spell_length (c : UInt8) : (spell c).length ≤ 4 := by
  unfold spell
  split
  · simp
  · split
    · simp
    · split
      · simp
      · split <;> simp

/-- The literal of a string. -/
def quoteL (l : List UInt8) : List UInt8 := 34 :: (l.flatMap spell ++ [34])

theorem flatMap_take_succ {α β : Type} (l : List α) (f : α → List β) (k : Nat) (h : k < l.length) : (l.take (k + 1)).flatMap f = (l.take k).flatMap f ++ f l[k] := by
  rw [List.take_succ_eq_append_getElem h, List.flatMap_append]; simp

/-- The literal of a value; nothing for an invalid one. -/
def textL (v : V) : List UInt8 := if v.valid = true then (if v.k = 1 then Lib.itoa v.n else quoteL v.s.data.toList) else []

theorem textL_no {v : V} (h : v.valid = false) : textL v = [] := by unfold textL; rw [h]; rfl
theorem textL_int {v : V} (h : v.valid = true) (h1 : v.k = 1) : textL v = Lib.itoa v.n := by unfold textL; rw [if_pos h, if_pos h1]
theorem textL_str {v : V} (h : v.valid = true) (h1 : v.k ≠ 1) : textL v = quoteL v.s.data.toList := by unfold textL; rw [if_pos h, if_neg h1]

/-- An int64. -/
def I64 (n : Int) : Prop := -9223372036854775808 ≤ n ∧ n ≤ 9223372036854775807

/-- A value as it can lie in memory, its string not too long. -/
structure V.ok (v : V) : Prop where
  k : I64 v.k
  n : I64 v.n
  s : v.s.size ≤ 100000

theorem flatMap_spell_le : ∀ l : List UInt8, (l.flatMap spell).length ≤ 4 * l.length
  | [] => by simp
  | c :: l => by
    have := spell_length c
    have := flatMap_spell_le l
    simp only [List.flatMap_cons, List.length_append, List.length_cons]; omega

theorem quoteL_le (l : List UInt8) : (quoteL l).length ≤ 4 * l.length + 2 := by
  have := flatMap_spell_le l
  simp only [quoteL, List.length_cons, List.length_append, List.length_nil]; omega

theorem textL_le {v : V} (h : v.ok) : (textL v).length ≤ 400002 := by
  unfold textL
  split
  · split
    · have := Lib.itoa_length_le v.n h.n.1 h.n.2; omega
    · have := quoteL_le v.s.data.toList
      have hs : v.s.data.toList.length ≤ 100000 := by simpa using h.s
      omega
  · simp

/-- A row without its parentheses. -/
def rowBody : List V → List UInt8
  | [] => []
  | v :: vs => textL v ++ vs.flatMap fun v => [44, 32] ++ textL v

/-- The text of a row. -/
def rowTextL (r : List V) : List UInt8 := 40 :: (rowBody r ++ [41])

theorem rowBody_snoc {l : List V} (h : l ≠ []) (v : V) : rowBody (l ++ [v]) = rowBody l ++ ([44, 32] ++ textL v) := by
  cases l with
  | nil => exact absurd rfl h
  | cons x xs => simp [rowBody, List.flatMap_append]

theorem rowBody_succ {r : List V} {k : Nat} (h : k < r.length) (hk : 0 < k) : rowBody (r.take (k + 1)) = rowBody (r.take k) ++ ([44, 32] ++ textL r[k]) := by
  rw [List.take_succ_eq_append_getElem h]
  exact rowBody_snoc (by intro e; have := congrArg List.length e; rw [List.length_take, List.length_nil] at this; omega) _

theorem rowBody_one {r : List V} (h : 0 < r.length) : rowBody (r.take 1) = textL r[0] := by
  cases r with
  | nil => simp at h
  | cons x xs => simp [rowBody]

end Go.Proofs.YtaghaigckgckpaaDoor
