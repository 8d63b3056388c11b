/-
  PLAIN: tokens of a text, as lists. Imports nothing of the program.
-/
import Derived.Test.YtgeapgbebbapmaaDoorLit2
namespace Go.Proofs.YtgeapgbebbapmaaDoor

structure Tok where
  k : Int
  t : List UInt8
  v : V
  a : Int

def T0 : Tok := ⟨0, [], V0, 0⟩
def letB (c : UInt8) : Bool := (decide (97 ≤ c.toNat) && decide (c.toNat ≤ 122)) || (decide (65 ≤ c.toNat) && decide (c.toNat ≤ 90))
def digB (c : UInt8) : Bool := decide (48 ≤ c.toNat) && decide (c.toNat ≤ 57)
def wrdB (c : UInt8) : Bool := letB c || digB c || c == 95
def whtB (c : UInt8) : Bool := c == 32 || c == 9 || c == 10 || c == 13

/-- The number of letters, digits and underscores at the beginning. -/
def wordLen (l : List UInt8) : Nat := (l.takeWhile wrdB).length
/-- The bytes up to the closing quotation mark; e: the byte before was a backslash. -/
def strGo : Bool → List UInt8 → Option Nat
  | _, [] => none
  | true, _ :: r => (strGo false r).map (· + 1)
  | false, c :: r => if c = 92 then (strGo true r).map (· + 1) else if c = 34 then some 1 else (strGo false r).map (· + 1)
def strLen (l : List UInt8) : Option Nat := (strGo false (l.drop 1)).map (· + 1)

def symL : List (List UInt8) := [[58, 45], [33, 61], [60, 61], [62, 61], [40], [41], [44], [59], [124], [61], [60], [62]]
/-- count, desc, max, min, not, order, sum -/
def keyL7 : List (List UInt8) := [[99, 111, 117, 110, 116], [100, 101, 115, 99], [109, 97, 120], [109, 105, 110], [110, 111, 116], [111, 114, 100, 101, 114], [115, 117, 109]]

def wordTok (r : List UInt8) (a : Int) : Tok × Int :=
  if keyL7.contains (r.take (wordLen r)) = true then (⟨5, r.take (wordLen r), V0, a⟩, 0) else if 16 < (r.take (wordLen r)).length then (T0, 7) else (⟨1, r.take (wordLen r), V0, a⟩, 0)
def litTok (k : Int) (x : List UInt8) (a : Int) : Tok × Int := if (parseL x).2 = 0 then (⟨k, x, (parseL x).1, a⟩, 0) else (T0, (parseL x).2)
def symTok (r : List UInt8) (a : Int) : Tok × Int := match symL.find? (fun y => y.isPrefixOf r) with
  | some y => (⟨4, y, V0, a⟩, 0)
  | none => (T0, 15)
/-- Does a number begin here? -/
def numB (r : List UInt8) : Bool := digB (r.getD 0 0) || (r.getD 0 0 == 45 && (decide (1 < r.length) && digB (r.getD 1 0)))
/-- The token at the beginning of a text that is not empty and does not begin with white space. -/
def nextL (r : List UInt8) (a : Int) : Tok × Int :=
  if letB (r.getD 0 0) = true then wordTok r a
  else if numB r = true then litTok 2 (r.take (1 + wordLen (r.drop 1))) a
  else if r.getD 0 0 = 34 then (match strLen r with
    | none => (T0, 14)
    | some n => litTok 3 (r.take n) a)
  else symTok r a

theorem wordLen_le (l : List UInt8) : wordLen l ≤ l.length := by
  unfold wordLen
  exact (List.takeWhile_prefix _).length_le
theorem wordLen_take (l : List UInt8) : l.take (wordLen l) = l.takeWhile wrdB :=
  (List.prefix_iff_eq_take.1 (List.takeWhile_prefix wrdB)).symm

theorem strGo_le : ∀ (l : List UInt8) (e : Bool) (n : Nat), strGo e l = some n → 0 < n ∧ n ≤ l.length
  | [], e, n, h => by cases e <;> simp [strGo] at h
  | c :: r, true, n, h => by
    simp only [strGo, Option.map_eq_some_iff] at h
    obtain ⟨m, hm, rfl⟩ := h
    have := strGo_le r _ m hm
    simp only [List.length_cons]; omega
  | c :: r, false, n, h => by
    simp only [strGo] at h
    split at h
    · simp only [Option.map_eq_some_iff] at h
      obtain ⟨m, hm, rfl⟩ := h
      have := strGo_le r _ m hm
      simp only [List.length_cons]; omega
    · split at h
      · injection h with h; subst h; simp
      · simp only [Option.map_eq_some_iff] at h
        obtain ⟨m, hm, rfl⟩ := h
        have := strGo_le r _ m hm
        simp only [List.length_cons]; omega

theorem strGo_ext : ∀ (l : List UInt8) (e : Bool) (n : Nat) (u : List UInt8), strGo e l = some n → strGo e (l ++ u) = some n
  | [], e, n, u, h => by cases e <;> simp [strGo] at h
  | c :: r, true, n, u, h => by
    simp only [strGo, Option.map_eq_some_iff, List.cons_append] at h ⊢
    obtain ⟨m, hm, rfl⟩ := h
    exact ⟨m, strGo_ext r _ m u hm, rfl⟩
  | c :: r, false, n, u, h => by
    simp only [strGo, List.cons_append] at h ⊢
    split at h
    · rename_i g
      rw [if_pos g]
      simp only [Option.map_eq_some_iff] at h ⊢
      obtain ⟨m, hm, rfl⟩ := h
      exact ⟨m, strGo_ext r _ m u hm, rfl⟩
    · rename_i g
      rw [if_neg g]
      split at h
      · rename_i g2
        rw [if_pos g2]; exact h
      · rename_i g2
        rw [if_neg g2]
        simp only [Option.map_eq_some_iff] at h ⊢
        obtain ⟨m, hm, rfl⟩ := h
        exact ⟨m, strGo_ext r _ m u hm, rfl⟩

theorem strGo_cut : ∀ (l : List UInt8) (e : Bool) (n : Nat), strGo e l = some n → strGo e (l.take n) = some n
  | [], e, n, h => by cases e <;> simp [strGo] at h
  | c :: r, true, n, h => by
    simp only [strGo, Option.map_eq_some_iff] at h
    obtain ⟨m, hm, rfl⟩ := h
    simp only [List.take_succ_cons, strGo, strGo_cut r _ m hm, Option.map_some]
  | c :: r, false, n, h => by
    simp only [strGo] at h
    split at h
    · rename_i g
      simp only [Option.map_eq_some_iff] at h
      obtain ⟨m, hm, rfl⟩ := h
      simp only [List.take_succ_cons, strGo, if_pos g, strGo_cut r _ m hm, Option.map_some]
    · rename_i g
      split at h
      · rename_i g2
        injection h with h; subst h
        simp only [List.take_succ_cons, strGo, if_neg g, if_pos g2]
      · rename_i g2
        simp only [Option.map_eq_some_iff] at h
        obtain ⟨m, hm, rfl⟩ := h
        simp only [List.take_succ_cons, strGo, if_neg g, if_neg g2, strGo_cut r _ m hm, Option.map_some]

theorem strLen_le {l : List UInt8} {n : Nat} (h : strLen l = some n) : 2 ≤ n ∧ n ≤ l.length := by
  unfold strLen at h
  simp only [Option.map_eq_some_iff] at h
  obtain ⟨m, hm, rfl⟩ := h
  have := strGo_le _ _ m hm
  rw [List.length_drop] at this
  omega

theorem symTok_ok {r : List UInt8} {a : Int} {t : Tok} (h : symTok r a = (t, 0)) : ∃ y, symL.find? (fun y => y.isPrefixOf r) = some y ∧ t = ⟨4, y, V0, a⟩ := by
  unfold symTok at h
  split at h
  · rename_i y hy
    injection h with h1 _
    exact ⟨y, hy, h1.symm⟩
  · injection h with _ h2
    exact absurd h2 (by decide)

theorem litTok_ok {k : Int} {x : List UInt8} {a : Int} {t : Tok} (h : litTok k x a = (t, 0)) : parseL x = (t.v, 0) ∧ t = ⟨k, x, t.v, a⟩ := by
  unfold litTok at h
  split at h
  · rename_i g
    injection h with h1 _
    subst h1
    exact ⟨Prod.ext rfl g, rfl⟩
  · rename_i g
    injection h with _ h2
    exact absurd h2 g

/-- What is known of a token. -/
theorem nextL_ok {r : List UInt8} {a : Int} {t : Tok} (hr : r ≠ []) (h : nextL r a = (t, 0)) :
    t.t <+: r ∧ t.t ≠ [] ∧ t.a = a ∧ ((t.k = 2 ∨ t.k = 3) ∧ parseL t.t = (t.v, 0) ∨ (t.k = 1 ∨ t.k = 4 ∨ t.k = 5) ∧ t.v = V0) := by
  unfold nextL at h
  split at h
  · rename_i g
    have hne : r.take (wordLen r) ≠ [] := by
      rw [wordLen_take]
      match r, hr with
      | c :: r', _ =>
        have : wrdB c = true := by unfold wrdB; simp at g; rw [g]; rfl
        simp [this]
    unfold wordTok at h
    split at h
    · injection h with h1 _
      subst h1
      exact ⟨List.take_prefix _ _, hne, rfl, .inr ⟨.inr (.inr rfl), rfl⟩⟩
    · split at h
      · injection h with _ h2; exact absurd h2 (by decide)
      · injection h with h1 _
        subst h1
        exact ⟨List.take_prefix _ _, hne, rfl, .inr ⟨.inl rfl, rfl⟩⟩
  · split at h
    · obtain ⟨h1, h2⟩ := litTok_ok h
      rw [h2]
      refine ⟨List.take_prefix _ _, ?_, rfl, .inl ⟨.inl rfl, h1⟩⟩
      match r, hr with
      | c :: r', _ => simp [Nat.add_comm 1]
    · split at h
      · split at h
        · injection h with _ h2; exact absurd h2 (by decide)
        · rename_i n hn
          obtain ⟨h1, h2⟩ := litTok_ok h
          have hle := strLen_le hn
          rw [h2]
          refine ⟨List.take_prefix _ _, ?_, rfl, .inl ⟨.inr rfl, h1⟩⟩
          intro e
          have h3 : (r.take n).length = 0 := congrArg List.length e
          rw [List.length_take] at h3
          omega
      · obtain ⟨y, hy, rfl⟩ := symTok_ok h
        have hp := List.find?_some hy
        have hm := List.mem_of_find?_eq_some hy
        refine ⟨List.isPrefixOf_iff_prefix.1 hp, ?_, rfl, .inr ⟨.inr (.inl rfl), rfl⟩⟩
        intro e
        simp only at e
        subst e
        revert hm; decide

/-- The tokens of a text, from the offset a on: the tokens, the offset of an error, the error's number. -/
def scan1 (l : List UInt8) (a : Int) : List Tok × Int × Int :=
  match l with
  | [] => ([⟨0, [], V0, a⟩], 0, 0)
  | c :: r =>
    if whtB c = true then scan1 r (a + 1)
    else if (nextL (c :: r) a).2 ≠ 0 then ([], a, (nextL (c :: r) a).2)
    else if (nextL (c :: r) a).1.t.length = 0 then ([], a, 0)
    else
      let x := scan1 ((c :: r).drop (nextL (c :: r) a).1.t.length) (a + (nextL (c :: r) a).1.t.length)
      if x.2.2 = 0 then ((nextL (c :: r) a).1 :: x.1, 0, 0) else x
termination_by l.length
decreasing_by
  · simp
  · rw [List.length_drop]; simp only [List.length_cons]; omega
end Go.Proofs.YtgeapgbebbapmaaDoor
