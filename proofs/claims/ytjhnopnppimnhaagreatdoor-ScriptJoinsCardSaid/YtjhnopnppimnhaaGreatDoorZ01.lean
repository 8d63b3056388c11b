/-
  PARTS of a claim, merged by segs.py: Plain, Num, Lit.
-/
import Derived.Lib.Bytealg
import Derived.Lib.Small
import Derived.Lib.ItoaNum
import Derived.Lib.ItoaLen
namespace Go.Proofs.YtjhnopnppimnhaaGreatDoor

/-! ### Plain -/
section

/-- A value: kind, integer, string. -/
structure V where
  k : Int
  n : Int
  s : ByteArray

/-- The order of values. -/
def V.cmp (a b : V) : Int :=
  if a.k ≠ b.k then Lib.compareInt a.k b.k else if a.n ≠ b.n then Lib.compareInt a.n b.n else Lib.compareBytes a.s.data.toList b.s.data.toList

theorem V.cmp_k {a b : V} (h : a.k ≠ b.k) : V.cmp a b = Lib.compareInt a.k b.k := by unfold V.cmp; rw [if_pos h]
theorem V.cmp_n {a b : V} (h : a.k = b.k) (h' : a.n ≠ b.n) : V.cmp a b = Lib.compareInt a.n b.n := by unfold V.cmp; rw [if_neg (by simpa using h), if_pos h']
theorem V.cmp_s {a b : V} (h : a.k = b.k) (h' : a.n = b.n) : V.cmp a b = Lib.compareBytes a.s.data.toList b.s.data.toList := by unfold V.cmp; rw [if_neg (by simpa using h), if_neg (by simpa using h')]

theorem compareInt_range (a b : Int) : -1 ≤ Lib.compareInt a b ∧ Lib.compareInt a b ≤ 1 := by
  unfold Lib.compareInt
  by_cases h : a < b
  · rw [if_pos h]; omega
  · rw [if_neg h]
    by_cases h' : a > b
    · rw [if_pos h']; omega
    · rw [if_neg h']; omega

theorem compareBytes_range : ∀ a b : List UInt8, -1 ≤ Lib.compareBytes a b ∧ Lib.compareBytes a b ≤ 1
  | [], [] => by simp [Lib.compareBytes]
  | [], _ :: _ => by simp [Lib.compareBytes]
  | _ :: _, [] => by simp [Lib.compareBytes]
  | a :: as, b :: bs => by
    unfold Lib.compareBytes
    by_cases h : a < b
    · rw [if_pos h]; omega
    · rw [if_neg h]
      by_cases h' : b < a
      · rw [if_pos h']; omega
      · rw [if_neg h']; exact compareBytes_range as bs

theorem V.cmp_range (a b : V) : -1 ≤ V.cmp a b ∧ V.cmp a b ≤ 1 := by
  unfold V.cmp
  by_cases h : a.k ≠ b.k
  · rw [if_pos h]; exact compareInt_range _ _
  · rw [if_neg h]
    by_cases h' : a.n ≠ b.n
    · rw [if_pos h']; exact compareInt_range _ _
    · rw [if_neg h']; exact compareBytes_range _ _

/-- The order of rows; d: which columns are descending. -/
def rowCmp : List Bool → List V → List V → Int
  | _, [], [] => 0
  | _, [], _ :: _ => -1
  | _, _ :: _, [] => 1
  | d, a :: as, b :: bs => if V.cmp a b = 0 then rowCmp d.tail as bs else if d.headD false then - V.cmp a b else V.cmp a b

theorem rowCmp_range : ∀ (d : List Bool) (a b : List V), -1 ≤ rowCmp d a b ∧ rowCmp d a b ≤ 1
  | _, [], [] => by simp [rowCmp]
  | _, [], _ :: _ => by simp [rowCmp]
  | _, _ :: _, [] => by simp [rowCmp]
  | d, a :: as, b :: bs => by
    unfold rowCmp
    have := V.cmp_range a b
    by_cases h : V.cmp a b = 0
    · rw [if_pos h]; exact rowCmp_range _ as bs
    · rw [if_neg h]
      cases d.headD false
      · rw [if_neg (by simp)]; omega
      · rw [if_pos rfl]; omega

theorem rowCmp_step {d : List Bool} {a b : List V} {k : Nat} (h : k < a.length) (h' : k < b.length) (e : V.cmp a[k] b[k] = 0) :
    rowCmp (d.drop k) (a.drop k) (b.drop k) = rowCmp (d.drop (k + 1)) (a.drop (k + 1)) (b.drop (k + 1)) := by
  rw [List.drop_eq_getElem_cons h, List.drop_eq_getElem_cons h']
  simp only [rowCmp, e, if_true, List.tail_drop]

theorem rowCmp_stop {d : List Bool} {a b : List V} {k : Nat} (h : k < a.length) (h' : k < b.length) (e : V.cmp a[k] b[k] ≠ 0) :
    rowCmp (d.drop k) (a.drop k) (b.drop k) = if d.getD k false then - V.cmp a[k] b[k] else V.cmp a[k] b[k] := by
  rw [List.drop_eq_getElem_cons h, List.drop_eq_getElem_cons h']
  simp only [rowCmp, e, if_false]
  have : (d.drop k).headD false = d.getD k false := by simp [List.headD_eq_head?_getD, List.head?_drop]
  rw [this]

theorem rowCmp_end {d : List Bool} {a b : List V} {k : Nat} (h : k ≤ a.length) (h' : k ≤ b.length) (hk : k = a.length ∨ k = b.length) :
    rowCmp (d.drop k) (a.drop k) (b.drop k) = if a.length < b.length then -1 else if b.length < a.length then 1 else 0 := by
  rcases hk with hk | hk
  · have e : a.drop k = [] := List.drop_eq_nil_of_le (by omega)
    rw [e]
    by_cases hl : a.length < b.length
    · rw [if_pos hl, List.drop_eq_getElem_cons (show k < b.length by omega)]; rfl
    · have e' : b.drop k = [] := List.drop_eq_nil_of_le (by omega)
      rw [if_neg hl, if_neg (by omega), e']; rfl
  · have e : b.drop k = [] := List.drop_eq_nil_of_le (by omega)
    rw [e]
    by_cases hl : b.length < a.length
    · rw [if_neg (by omega), if_pos hl, List.drop_eq_getElem_cons (show k < a.length by omega)]; rfl
    · have e' : a.drop k = [] := List.drop_eq_nil_of_le (by omega)
      rw [if_neg (by omega), if_neg hl, e']; rfl

/-- Is it a valid value? -/
def V.valid (v : V) : Bool := if v.k = 1 then v.s.toList.isEmpty else if v.k = 2 then decide (v.n = 0) && decide (v.s.size ≤ 24) else false

/-- A hexadecimal digit. -/
def hexd (n : Nat) : UInt8 := if n < 10 then (48 + n).toUInt8 else (87 + n).toUInt8

/-- The spelling of a byte in a literal. -/
def spell (c : UInt8) : List UInt8 :=
  if c.toNat = 34 ∨ c.toNat = 92 then [92, c] else if c.toNat = 10 then [92, 110] else if c.toNat = 9 then [92, 116]
  else if 32 ≤ c.toNat ∧ c.toNat ≤ 126 then [c] else [92, 120, hexd (c.toNat / 16), hexd (c.toNat % 16)]

theorem spell_length (c : UInt8) : (spell c).length ≤ 4 := by
  unfold spell
  split
  · simp
  · split
    · simp
    · split
      · simp
      · split <;> simp

/-- The literal of a string. -/
def quoteL (l : List UInt8) : List UInt8 := 34 :: (l.flatMap spell ++ [34])

theorem flatMap_take_succ {α β : Type} (l : List α) (f : α → List β) (k : Nat) (h : k < l.length) : (l.take (k + 1)).flatMap f = (l.take k).flatMap f ++ f l[k] := by
  rw [List.take_succ_eq_append_getElem h, List.flatMap_append]; simp

/-- The literal of a value; nothing for an invalid one. -/
def textL (v : V) : List UInt8 := if v.valid = true then (if v.k = 1 then Lib.itoa v.n else quoteL v.s.data.toList) else []

theorem textL_no {v : V} (h : v.valid = false) : textL v = [] := by unfold textL; rw [h]; rfl
theorem textL_int {v : V} (h : v.valid = true) (h1 : v.k = 1) : textL v = Lib.itoa v.n := by unfold textL; rw [if_pos h, if_pos h1]
theorem textL_str {v : V} (h : v.valid = true) (h1 : v.k ≠ 1) : textL v = quoteL v.s.data.toList := by unfold textL; rw [if_pos h, if_neg h1]

/-- An int64. -/
def I64 (n : Int) : Prop := -9223372036854775808 ≤ n ∧ n ≤ 9223372036854775807

/-- A value as it can lie in memory, its string not too long. -/
structure V.ok (v : V) : Prop where
  k : I64 v.k
  n : I64 v.n
  s : v.s.size ≤ 100000

theorem flatMap_spell_le : ∀ l : List UInt8, (l.flatMap spell).length ≤ 4 * l.length
  | [] => by simp
  | c :: l => by
    have := spell_length c
    have := flatMap_spell_le l
    simp only [List.flatMap_cons, List.length_append, List.length_cons]; omega

theorem quoteL_le (l : List UInt8) : (quoteL l).length ≤ 4 * l.length + 2 := by
  have := flatMap_spell_le l
  simp only [quoteL, List.length_cons, List.length_append, List.length_nil]; omega

theorem textL_le {v : V} (h : v.ok) : (textL v).length ≤ 400002 := by
  unfold textL
  split
  · split
    · have := Lib.itoa_length_le v.n h.n.1 h.n.2; omega
    · have := quoteL_le v.s.data.toList
      have hs : v.s.data.toList.length ≤ 100000 := by simpa using h.s
      omega
  · simp

/-- A row without its parentheses. -/
def rowBody : List V → List UInt8
  | [] => []
  | v :: vs => textL v ++ vs.flatMap fun v => [44, 32] ++ textL v

/-- The text of a row. -/
def rowTextL (r : List V) : List UInt8 := 40 :: (rowBody r ++ [41])

theorem rowBody_snoc {l : List V} (h : l ≠ []) (v : V) : rowBody (l ++ [v]) = rowBody l ++ ([44, 32] ++ textL v) := by
  cases l with
  | nil => exact absurd rfl h
  | cons x xs => simp [rowBody, List.flatMap_append]

theorem rowBody_succ {r : List V} {k : Nat} (h : k < r.length) (hk : 0 < k) : rowBody (r.take (k + 1)) = rowBody (r.take k) ++ ([44, 32] ++ textL r[k]) := by
  rw [List.take_succ_eq_append_getElem h]
  exact rowBody_snoc (by intro e; have := congrArg List.length e; rw [List.length_take, List.length_nil] at this; omega) _

theorem rowBody_one {r : List V} (h : 0 < r.length) : rowBody (r.take 1) = textL r[0] := by
  cases r with
  | nil => simp at h
  | cons x xs => simp [rowBody]

end

/-! ### Num -/
section

/-- The number that digits spell. -/
def numVal (l : List UInt8) : Nat := l.foldl (fun a c => a * 10 + (c.toNat - 48)) 0

theorem numVal_snoc (l : List UInt8) (c : UInt8) : numVal (l ++ [c]) = numVal l * 10 + (c.toNat - 48) := by simp [numVal, List.foldl_append]

theorem digit_toNat (d : Nat) (h : d < 10) : (UInt8.ofNat (48 + d)).toNat = 48 + d := by
  simp; omega

theorem numVal_dec (u : Nat) : numVal (Lib.decDigits u) = u := by
  induction u using Nat.strongRecOn with
  | _ u ih =>
    by_cases h : u < 10
    · rw [Lib.decDigits_one h]
      have := digit_toNat u h
      simp only [numVal, List.foldl_cons, List.foldl_nil, this]; omega
    · rw [Lib.decDigits, dif_neg h, numVal_snoc, ih (u / 10) (by omega), digit_toNat (u % 10) (by omega)]; omega

theorem dec_digits (u : Nat) : ∀ c ∈ Lib.decDigits u, 48 ≤ c.toNat ∧ c.toNat ≤ 57 := by
  induction u using Nat.strongRecOn with
  | _ u ih =>
    intro c hc
    by_cases h : u < 10
    · rw [Lib.decDigits_one h] at hc
      simp only [List.mem_singleton] at hc
      subst hc
      rw [digit_toNat u h]; omega
    · rw [Lib.decDigits, dif_neg h, List.mem_append] at hc
      rcases hc with hc | hc
      · exact ih (u / 10) (by omega) c hc
      · simp only [List.mem_singleton] at hc
        subst hc
        rw [digit_toNat _ (show u % 10 < 10 by omega)]; omega

theorem dec_ne_nil (u : Nat) : Lib.decDigits u ≠ [] := by
  by_cases h : u < 10
  · rw [Lib.decDigits_one h]; simp
  · rw [Lib.decDigits, dif_neg h]; simp

theorem dec_inj {u v : Nat} (h : Lib.decDigits u = Lib.decDigits v) : u = v := by rw [← numVal_dec u, h, numVal_dec]

theorem itoa_inj {a b : Int} (h : Lib.itoa a = Lib.itoa b) : a = b := by
  unfold Lib.itoa at h
  have key : ∀ u v : Nat, (45 : UInt8) :: Lib.decDigits u ≠ Lib.decDigits v := fun u v e => by
    have := dec_digits v 45 (by rw [← e]; simp)
    simp at this
  by_cases ha : a < 0 <;> by_cases hb : b < 0
  · rw [if_pos ha, if_pos hb] at h
    injection h with _ h
    have := dec_inj h; omega
  · rw [if_pos ha, if_neg hb] at h; exact absurd h (key _ _)
  · rw [if_neg ha, if_pos hb] at h; exact absurd h.symm (key _ _)
  · rw [if_neg ha, if_neg hb] at h
    have := dec_inj h; omega

/-- The bytes of a numeral: a minus or a digit. -/
theorem itoa_bytes (n : Int) : ∀ c ∈ Lib.itoa n, c.toNat = 45 ∨ (48 ≤ c.toNat ∧ c.toNat ≤ 57) := by
  intro c hc
  unfold Lib.itoa at hc
  split at hc
  · rcases List.mem_cons.1 hc with rfl | hc
    · exact .inl rfl
    · exact .inr (dec_digits _ c hc)
  · exact .inr (dec_digits _ c hc)

theorem itoa_ne_nil (n : Int) : Lib.itoa n ≠ [] := by
  unfold Lib.itoa
  split
  · simp
  · exact dec_ne_nil _

/-- A text up to its first blank. -/
theorem split_at {x y r s : List UInt8} {d : UInt8} (hx : ∀ c ∈ x, c ≠ d) (hy : ∀ c ∈ y, c ≠ d) (h : x ++ d :: r = y ++ d :: s) : x = y ∧ r = s := by
  induction x generalizing y with
  | nil =>
    cases y with
    | nil => simp at h; exact ⟨rfl, h⟩
    | cons b y => simp at h; exact absurd h.1.symm (hy b (by simp))
  | cons a x ih =>
    cases y with
    | nil => simp at h; exact absurd h.1 (hx a (by simp))
    | cons b y =>
      simp at h
      obtain ⟨e1, e2⟩ := ih (fun c hc => hx c (by simp [hc])) (fun c hc => hy c (by simp [hc])) h.2
      exact ⟨by rw [h.1, e1], e2⟩

/-- The key of a value, of a row. -/
def keyV (v : V) : List UInt8 := Lib.itoa v.k ++ 32 :: (Lib.itoa v.n ++ 32 :: (Lib.itoa v.s.size ++ 32 :: v.s.data.toList))
def keyL (r : List V) : List UInt8 := r.flatMap keyV

theorem itoa_no32 (n : Int) : ∀ c ∈ Lib.itoa n, c ≠ 32 := fun c hc e => by
  have := itoa_bytes n c hc
  subst e
  simp at this

theorem keyV_inj {v u : V} {r s : List UInt8} (h : keyV v ++ r = keyV u ++ s) : v = u ∧ r = s := by
  obtain ⟨k, n, ⟨⟨x⟩⟩⟩ := v
  obtain ⟨k', n', ⟨⟨x'⟩⟩⟩ := u
  simp only [keyV, List.append_assoc, List.cons_append] at h
  obtain ⟨e1, h⟩ := split_at (itoa_no32 _) (itoa_no32 _) h
  obtain ⟨e2, h⟩ := split_at (itoa_no32 _) (itoa_no32 _) h
  obtain ⟨e3, h⟩ := split_at (itoa_no32 _) (itoa_no32 _) h
  have e1 := itoa_inj e1
  have e2 := itoa_inj e2
  have e3 : (x.length : Int) = x'.length := by simpa [ByteArray.size] using itoa_inj e3
  obtain ⟨e4, e5⟩ := List.append_inj h (by have : x.length = x'.length := by omega
                                           simpa using this)
  have e4 : x = x' := e4
  subst e1 e2 e4
  exact ⟨rfl, e5⟩

theorem keyV_ne_nil (v : V) : keyV v ≠ [] := by
  unfold keyV; have := itoa_ne_nil v.k; simp

theorem keyL_inj : ∀ {a b : List V}, keyL a = keyL b → a = b
  | [], [], _ => rfl
  | [], v :: b, h => by simp [keyL] at h; exact absurd h.1 (keyV_ne_nil v)
  | v :: a, [], h => by simp [keyL] at h; exact absurd h.1 (keyV_ne_nil v)
  | v :: a, u :: b, h => by
    simp only [keyL, List.flatMap_cons] at h
    obtain ⟨rfl, h'⟩ := keyV_inj h
    rw [keyL_inj (a := a) (b := b) h']

end

/-! ### Lit -/
section

/-- The value of a hexadecimal digit. -/
def hexIx (c : UInt8) : Option Nat := if 48 ≤ c.toNat ∧ c.toNat ≤ 57 then some (c.toNat - 48) else if 97 ≤ c.toNat ∧ c.toNat ≤ 102 then some (c.toNat - 87) else none

/-- Bytes that a literal spells by themselves or by a letter. -/
def short (c : Nat) : Prop := c = 10 ∨ c = 9 ∨ (32 ≤ c ∧ c ≤ 126)
instance (c : Nat) : Decidable (short c) := by unfold short; infer_instance

/-- The byte of a spelling by two hexadecimal digits, and its length; 0: there is none. -/
def unhexL (l : List UInt8) : UInt8 × Nat :=
  if l.length < 4 then (0, 0) else match hexIx (l.getD 2 0), hexIx (l.getD 3 0) with
    | some a, some b => if short (a * 16 + b) then (0, 0) else ((a * 16 + b).toUInt8, 4)
    | _, _ => (0, 0)

/-- The byte at the beginning of a text within a literal, and the length of its spelling; 0: there is none. -/
def unquoteL (l : List UInt8) : UInt8 × Nat :=
  if (l.getD 0 0).toNat ≠ 92 then (if (l.getD 0 0).toNat < 32 ∨ 126 < (l.getD 0 0).toNat then (0, 0) else (l.getD 0 0, 1))
  else if l.length < 2 then (0, 0)
  else if (l.getD 1 0).toNat = 34 ∨ (l.getD 1 0).toNat = 92 then (l.getD 1 0, 2)
  else if (l.getD 1 0).toNat = 110 then (10, 2) else if (l.getD 1 0).toNat = 116 then (9, 2)
  else if (l.getD 1 0).toNat = 120 then unhexL l else (0, 0)

/-- The same, but a quotation mark stands for no byte. -/
def unq (l : List UInt8) : UInt8 × Nat := if l.getD 0 0 = 34 then (0, 0) else unquoteL l

theorem hexIx_hexd : ∀ c : UInt8, ∀ a, hexIx c = some a → hexd a = c ∧ a < 16 := by
  intro c a h
  unfold hexIx at h
  split at h
  · rename_i g
    simp only [Option.some.injEq] at h
    subst h
    refine ⟨?_, by omega⟩
    unfold hexd
    rw [if_pos (by omega)]
    apply UInt8.toNat.inj
    simp; omega
  · split at h
    · rename_i g
      simp only [Option.some.injEq] at h
      subst h
      refine ⟨?_, by omega⟩
      unfold hexd
      rw [if_neg (by omega)]
      apply UInt8.toNat.inj
      simp; omega
    · cases h

theorem hexd_hexIx : ∀ a < 16, hexIx (hexd a) = some a := by decide

theorem take_four {l : List UInt8} (h : 4 ≤ l.length) : l = l.getD 0 0 :: l.getD 1 0 :: l.getD 2 0 :: l.getD 3 0 :: l.drop 4 := by
  match l, h with
  | a :: b :: c :: d :: r, _ => rfl

theorem spell_hex {c : Nat} (h : ¬ short c) (hc : c < 256) (h34 : c ≠ 34) (h92 : c ≠ 92) : spell c.toUInt8 = [92, 120, hexd (c / 16), hexd (c % 16)] := by
  have e : c.toUInt8.toNat = c := by simp; omega
  unfold short at h
  unfold spell
  rw [e, if_neg (by omega), if_neg (by omega), if_neg (by omega), if_neg (by omega)]

theorem unq_sound {l : List UInt8} {b : UInt8} {n : Nat} (h : unq l = (b, n)) (hn : n ≠ 0) : l = spell b ++ l.drop n ∧ n = (spell b).length := by
  unfold unq at h
  split at h
  · injection h with _ h; omega
  · rename_i h34
    have hnil : l ≠ [] := fun e => by subst e; simp [unquoteL] at h; exact hn h.2.symm
    unfold unquoteL at h
    match l, hnil with
    | c :: r, _ =>
      simp only [List.getD_cons_zero] at h h34
      have h34' : c.toNat ≠ 34 := fun e => h34 (UInt8.toNat.inj e)
      split at h
      · rename_i h1
        split at h
        · injection h with _ h; omega
        · rename_i h2
          injection h with e1 e2
          subst e1 e2
          have : spell c = [c] := by unfold spell; rw [if_neg (by omega), if_neg (by omega), if_neg (by omega), if_pos (by omega)]
          rw [this]; simp
      · rename_i h1
        have ec : c = 92 := UInt8.toNat.inj (by simpa using h1)
        subst ec
        split at h
        · injection h with _ h; omega
        · rename_i h2
          match r, h2 with
          | [], h2 => exact absurd (by simp) h2
          | d :: r', _ =>
            simp only [List.getD_cons_zero, List.getD_cons_succ] at h
            split at h
            · rename_i h3
              injection h with e1 e2
              subst e1 e2
              have : spell d = [92, d] := by unfold spell; rw [if_pos h3]
              rw [this]; simp
            · split at h
              · rename_i h4
                injection h with e1 e2
                subst e1 e2
                have ed : d = 110 := UInt8.toNat.inj h4
                subst ed
                exact ⟨rfl, rfl⟩
              · split at h
                · rename_i h4
                  injection h with e1 e2
                  subst e1 e2
                  have ed : d = 116 := UInt8.toNat.inj h4
                  subst ed
                  exact ⟨rfl, rfl⟩
                · split at h
                  · rename_i h5
                    have ed : d = 120 := UInt8.toNat.inj h5
                    subst ed
                    unfold unhexL at h
                    split at h
                    · injection h with _ h; omega
                    · rename_i h6
                      have e4 := take_four (l := 92 :: 120 :: r') (by omega)
                      split at h
                      · rename_i a b' ha hb
                        obtain ⟨x1, x2⟩ := hexIx_hexd _ _ ha
                        obtain ⟨y1, y2⟩ := hexIx_hexd _ _ hb
                        split at h
                        · injection h with _ h; omega
                        · rename_i h7
                          injection h with e1 e2
                          subst e1 e2
                          have hs := spell_hex h7 (by omega) (by intro e; exact h7 (by unfold short; omega)) (by intro e; exact h7 (by unfold short; omega))
                          have q1 : (a * 16 + b') / 16 = a := by omega
                          have q2 : (a * 16 + b') % 16 = b' := by omega
                          rw [q1, q2, x1, y1] at hs
                          rw [hs]
                          exact ⟨e4, rfl⟩
                      · injection h with _ h; omega
                  · injection h with _ h; omega

theorem spell_ne_nil (c : UInt8) : spell c ≠ [] := by
  unfold spell
  repeat' split
  all_goals simp

theorem unq_spell (c : UInt8) (t : List UInt8) : unq (spell c ++ t) = (c, (spell c).length) := by
  unfold spell
  split
  · rename_i h
    simp only [unq, unquoteL, List.cons_append, List.nil_append, List.getD_cons_zero, List.getD_cons_succ]
    rw [if_neg (by decide), if_neg (by decide), if_neg (by simp), if_pos h]; rfl
  · split
    · rename_i h
      have e : c = 10 := UInt8.toNat.inj h
      subst e; rfl
    · split
      · rename_i h
        have e : c = 9 := UInt8.toNat.inj h
        subst e; rfl
      · split
        · rename_i h1 _ _ h
          simp only [unq, unquoteL, List.cons_append, List.nil_append, List.getD_cons_zero]
          rw [if_neg (fun e => h1 (.inl (by rw [e]; rfl))), if_pos (fun e => h1 (.inr e)), if_neg (by omega)]; rfl
        · rename_i h1 h2 h3 h4
          have hc : c.toNat < 256 := c.toNat_lt
          have a1 := hexd_hexIx (c.toNat / 16) (by omega)
          have a2 := hexd_hexIx (c.toNat % 16) (by omega)
          have e : c.toNat / 16 * 16 + c.toNat % 16 = c.toNat := by omega
          simp only [unq, unquoteL, unhexL, List.cons_append, List.nil_append, List.getD_cons_zero, List.getD_cons_succ, a1, a2, e]
          rw [if_neg (by decide), if_neg (by decide), if_neg (by simp), if_neg (by decide), if_neg (by decide), if_neg (by decide), if_pos (by decide), if_neg (by simp), if_neg (by unfold short; omega)]
          simp

theorem unq_le {l : List UInt8} {b : UInt8} {n : Nat} (h : unq l = (b, n)) (hn : n ≠ 0) : n ≤ l.length := by
  obtain ⟨h1, h2⟩ := unq_sound h hn
  have := congrArg List.length h1
  rw [List.length_append] at this
  omega

/-- The bytes that a text within a literal spells. -/
def dec (acc l : List UInt8) : Option (List UInt8) :=
  if l = [] then some acc else if (unq l).2 = 0 then none else dec (acc ++ [(unq l).1]) (l.drop (unq l).2)
termination_by l.length
decreasing_by
  rename_i h1 h2
  have : 0 < l.length := List.length_pos_iff.2 h1
  simp only [List.length_drop]; omega

theorem dec_nil (acc : List UInt8) : dec acc [] = some acc := by rw [dec, if_pos rfl]
theorem dec_spell (acc : List UInt8) (c : UInt8) (t : List UInt8) : dec acc (spell c ++ t) = dec (acc ++ [c]) t := by
  have hp : 0 < (spell c).length := List.length_pos_iff.2 (spell_ne_nil c)
  rw [dec, if_neg (by simp [spell_ne_nil]), unq_spell, if_neg (by omega)]
  simp

theorem dec_flatMap (o : List UInt8) : ∀ acc, dec acc (o.flatMap spell) = some (acc ++ o) := by
  induction o with
  | nil => intro acc; simp [dec_nil]
  | cons c o ih => intro acc; rw [List.flatMap_cons, dec_spell, ih]; simp

theorem dec_sound : ∀ (n : Nat) (l acc out : List UInt8), l.length ≤ n → dec acc l = some out → ∃ o, out = acc ++ o ∧ l = o.flatMap spell
  | n, [], acc, out, _, h => by rw [dec_nil] at h; exact ⟨[], by simpa using h.symm, rfl⟩
  | 0, _ :: _, _, _, hn, _ => by simp at hn
  | n + 1, c :: l, acc, out, hn, h => by
    rw [dec, if_neg (by simp)] at h
    by_cases h0 : (unq (c :: l)).2 = 0
    · rw [if_pos h0] at h; cases h
    · rw [if_neg h0] at h
      obtain ⟨h1, h2⟩ := unq_sound (l := c :: l) (b := (unq (c :: l)).1) (n := (unq (c :: l)).2) rfl h0
      obtain ⟨o, e1, e2⟩ := dec_sound n _ _ _ (by simp only [List.length_drop, List.length_cons] at hn ⊢; omega) h
      refine ⟨(unq (c :: l)).1 :: o, by rw [e1]; simp, ?_⟩
      rw [List.flatMap_cons, ← e2, ← h1]

/-- The program's road: up to a quotation mark. -/
def scan (acc l : List UInt8) : Option (List UInt8 × List UInt8) :=
  if l = [] then some (acc, []) else if l.getD 0 0 = 34 then some (acc, l) else if (unquoteL l).2 = 0 then none else scan (acc ++ [(unquoteL l).1]) (l.drop (unquoteL l).2)
termination_by l.length
decreasing_by
  rename_i h1 _ h3
  have : 0 < l.length := List.length_pos_iff.2 h1
  simp only [List.length_drop]; omega

theorem scan_suffix : ∀ (n : Nat) (l acc o t : List UInt8), l.length ≤ n → scan acc l = some (o, t) → (∃ p, l = p ++ t) ∧ (t = [] ∨ t.getD 0 0 = 34)
  | n, [], acc, o, t, _, h => by rw [scan, if_pos rfl] at h; injection h with h; injection h with _ h; subst h; exact ⟨⟨[], rfl⟩, .inl rfl⟩
  | 0, _ :: _, _, _, _, hn, _ => by simp at hn
  | n + 1, c :: l, acc, o, t, hn, h => by
    rw [scan, if_neg (by simp)] at h
    by_cases h1 : (c :: l).getD 0 0 = 34
    · rw [if_pos h1] at h; injection h with h; injection h with _ h; subst h; exact ⟨⟨[], rfl⟩, .inr h1⟩
    · rw [if_neg h1] at h
      by_cases h0 : (unquoteL (c :: l)).2 = 0
      · rw [if_pos h0] at h; cases h
      · rw [if_neg h0] at h
        obtain ⟨⟨p, e1⟩, e2⟩ := scan_suffix n _ _ _ _ (by simp only [List.length_drop, List.length_cons] at hn ⊢; omega) h
        exact ⟨⟨(c :: l).take (unquoteL (c :: l)).2 ++ p, by rw [List.append_assoc, ← e1, List.take_append_drop]⟩, e2⟩

theorem unquoteL_ext {r : List UInt8} (hr : r ≠ []) (h34 : r.getD 0 0 ≠ 34) : ((unquoteL (r ++ [34])).2 = (unquoteL r).2 ∧ (unquoteL (r ++ [34])).1 = (unquoteL r).1) ∨ ((unquoteL r).2 = 0 ∧ r = [92]) := by
  match r, hr with
  | [c], _ =>
    by_cases hc : c.toNat = 92
    · have e : c = 92 := UInt8.toNat.inj hc
      subst e; right; exact ⟨rfl, rfl⟩
    · left
      simp only [unquoteL, List.cons_append, List.nil_append, List.getD_cons_zero]
      rw [if_pos hc, if_pos hc]; exact ⟨rfl, rfl⟩
  | [c, d], _ =>
    left
    by_cases hc : c.toNat = 92
    · simp only [unquoteL, unhexL, List.cons_append, List.nil_append, List.getD_cons_zero, List.getD_cons_succ, List.length_cons, List.length_nil]
      simp
    · simp only [unquoteL, List.cons_append, List.nil_append, List.getD_cons_zero]
      rw [if_pos hc, if_pos hc]; exact ⟨rfl, rfl⟩
  | [c, d, e], _ =>
    left
    have h0 : hexIx 34 = none := by decide
    by_cases hc : c.toNat = 92
    · simp only [unquoteL, unhexL, List.cons_append, List.nil_append, List.getD_cons_zero, List.getD_cons_succ, List.length_cons, List.length_nil, h0]
      simp
    · simp only [unquoteL, List.cons_append, List.nil_append, List.getD_cons_zero]
      rw [if_pos hc, if_pos hc]; exact ⟨rfl, rfl⟩
  | c :: d :: e :: f :: g, _ =>
    left
    have l1 : ¬ (c :: d :: e :: f :: (g ++ [34])).length < 2 := by simp
    have l2 : ¬ (c :: d :: e :: f :: (g ++ [34])).length < 4 := by simp
    have l3 : ¬ (c :: d :: e :: f :: g).length < 2 := by simp
    have l4 : ¬ (c :: d :: e :: f :: g).length < 4 := by simp
    simp only [unquoteL, unhexL, List.cons_append, List.getD_cons_zero, List.getD_cons_succ, if_neg l1, if_neg l2, if_neg l3, if_neg l4]
    refine ⟨?_, ?_⟩ <;> first | trivial | rfl

theorem unquoteL_le {r : List UInt8} (h34 : r.getD 0 0 ≠ 34) (h : (unquoteL r).2 ≠ 0) : (unquoteL r).2 ≤ r.length := by
  have e : unq r = unquoteL r := by unfold unq; rw [if_neg h34]
  exact unq_le (l := r) (b := (unquoteL r).1) (n := (unquoteL r).2) e h

theorem scan_dec : ∀ (n : Nat) (r acc : List UInt8), r.length ≤ n →
    match dec acc r with
    | some out => scan acc (r ++ [34]) = some (out, [34])
    | none => ∀ o t, scan acc (r ++ [34]) = some (o, t) → t.length ≠ 1
  | n, [], acc, _ => by
    rw [dec_nil]
    show scan acc [34] = _
    rw [scan, if_neg (by simp), if_pos (by rfl)]
  | 0, _ :: _, _, hn => by simp at hn
  | n + 1, c :: r, acc, hn => by
    by_cases h1 : c = 34
    · have e1 : dec acc (c :: r) = none := by rw [dec, if_neg (by simp), if_pos (by unfold unq; rw [if_pos (by simpa using h1)])]
      rw [e1]
      intro o t ht
      rw [scan, if_neg (by simp), if_pos (by simpa using h1)] at ht
      injection ht with ht; injection ht with _ ht; subst ht; simp
    · have h1' : (c :: r).getD 0 0 ≠ 34 := by simpa using h1
      have h1'' : (c :: r ++ [34]).getD 0 0 ≠ 34 := by simpa using h1
      have eu : unq (c :: r) = unquoteL (c :: r) := by unfold unq; rw [if_neg h1']
      rcases unquoteL_ext (r := c :: r) (by simp) h1' with ⟨x1, x2⟩ | ⟨x1, x2⟩
      · by_cases h0 : (unquoteL (c :: r)).2 = 0
        · have e1 : dec acc (c :: r) = none := by rw [dec, if_neg (by simp), eu, if_pos h0]
          rw [e1]
          intro o t ht
          rw [scan, if_neg (by simp), if_neg h1'', if_pos (by rw [x1]; exact h0)] at ht
          cases ht
        · have hle := unquoteL_le h1' h0
          have e1 : dec acc (c :: r) = dec (acc ++ [(unquoteL (c :: r)).1]) ((c :: r).drop (unquoteL (c :: r)).2) := by rw [dec, if_neg (by simp), eu, if_neg h0]
          have e2 : scan acc (c :: r ++ [34]) = scan (acc ++ [(unquoteL (c :: r)).1]) ((c :: r).drop (unquoteL (c :: r)).2 ++ [34]) := by
            rw [scan, if_neg (by simp), if_neg h1'', x1, x2, if_neg h0, List.drop_append_of_le_length hle]
          rw [e1, e2]
          exact scan_dec n _ _ (by simp only [List.length_drop, List.length_cons] at hn ⊢; omega)
      · have e1 : dec acc (c :: r) = none := by rw [dec, if_neg (by simp), eu, if_pos x1]
        rw [e1, x2]
        intro o t ht
        rw [scan, if_neg (by simp), if_neg (by decide)] at ht
        have : (unquoteL ([92] ++ [34])) = (34, 2) := rfl
        rw [this, if_neg (by decide)] at ht
        rw [scan, if_pos (by rfl)] at ht
        injection ht with ht; injection ht with _ ht; subst ht; simp

/-- The zero value. -/
def V0 : V := ⟨0, 0, ⟨#[]⟩⟩
def strV (l : List UInt8) : V := ⟨2, 0, ⟨l.toArray⟩⟩

/-- value.Str: the value and the error's number. -/
def makeStr (o : List UInt8) : V × Int := if 24 < o.length then (V0, 13) else (strV o, 0)

/-- A literal that begins with a quotation mark, behind it. -/
def pStr (l : List UInt8) : V × Int := match scan [] l with
  | none => (V0, 15)
  | some (o, t) => if t.length = 1 then makeStr o else (V0, 15)
/-- The same, the document's road. -/
def rStr (l : List UInt8) : V × Int := if l.getLast? = some 34 then (match dec [] l.dropLast with
  | none => (V0, 15)
  | some o => makeStr o) else (V0, 15)

theorem pStr_eq (l : List UInt8) : pStr l = rStr l := by
  unfold pStr rStr
  by_cases hl : l.getLast? = some 34
  · rw [if_pos hl]
    have e : l = l.dropLast ++ [34] := by
      have hn : l ≠ [] := fun e => by subst e; cases hl
      rw [List.getLast?_eq_some_getLast hn, Option.some.injEq] at hl
      rw [← hl, List.dropLast_concat_getLast hn]
    have key := scan_dec l.dropLast.length l.dropLast [] (Nat.le_refl _)
    rw [← e] at key
    cases hd : dec [] l.dropLast with
    | none =>
      rw [hd] at key
      cases hs : scan [] l with
      | none => rfl
      | some x => obtain ⟨o, t⟩ := x; simp only; rw [if_neg (key o t hs)]
    | some out =>
      rw [hd] at key
      simp only at key
      rw [key]; simp
  · rw [if_neg hl]
    cases hs : scan [] l with
    | none => rfl
    | some x =>
      obtain ⟨o, t⟩ := x
      simp only
      by_cases ht : t.length = 1
      · exfalso
        obtain ⟨⟨p, e1⟩, e2⟩ := scan_suffix l.length l [] o t (Nat.le_refl _) hs
        match t, ht with
        | [c], _ =>
          rcases e2 with e2 | e2
          · cases e2
          · simp only [List.getD_cons_zero] at e2
            subst e2
            exact hl (by rw [e1]; simp)
      · rw [if_neg ht]

end
end Go.Proofs.YtjhnopnppimnhaaGreatDoor
