/-
  PLAIN: literals read back. Nothing of the program.
-/
import Derived.Test.YtgeapgbebbapmaaDoorNum
namespace Go.Proofs.YtgeapgbebbapmaaDoor

/-- The value of a hexadecimal digit. -/
def hexIx (c : UInt8) : Option Nat := if 48 ≤ c.toNat ∧ c.toNat ≤ 57 then some (c.toNat - 48) else if 97 ≤ c.toNat ∧ c.toNat ≤ 102 then some (c.toNat - 87) else none

/-- Bytes that a literal spells by themselves or by a letter. -/
def short (c : Nat) : Prop := c = 10 ∨ c = 9 ∨ (32 ≤ c ∧ c ≤ 126)
instance (c : Nat) : Decidable (short c) := by unfold short; infer_instance

/-- The byte of a spelling by two hexadecimal digits, and its length; 0: there is none. -/
def unhexL (l : List UInt8) : UInt8 × Nat :=
  if l.length < 4 then (0, 0) else match hexIx (l.getD 2 0), hexIx (l.getD 3 0) with
    | some a, some b => if short (a * 16 + b) then (0, 0) else ((a * 16 + b).toUInt8, 4)
    | _, _ => (0, 0)

/-- The byte at the beginning of a text within a literal, and the length of its spelling; 0: there is none. -/
def unquoteL (l : List UInt8) : UInt8 × Nat :=
  if (l.getD 0 0).toNat ≠ 92 then (if (l.getD 0 0).toNat < 32 ∨ 126 < (l.getD 0 0).toNat then (0, 0) else (l.getD 0 0, 1))
  else if l.length < 2 then (0, 0)
  else if (l.getD 1 0).toNat = 34 ∨ (l.getD 1 0).toNat = 92 then (l.getD 1 0, 2)
  else if (l.getD 1 0).toNat = 110 then (10, 2) else if (l.getD 1 0).toNat = 116 then (9, 2)
  else if (l.getD 1 0).toNat = 120 then unhexL l else (0, 0)

/-- The same, but a quotation mark stands for no byte. -/
def unq (l : List UInt8) : UInt8 × Nat := if l.getD 0 0 = 34 then (0, 0) else unquoteL l

theorem hexIx_hexd : ∀ c : UInt8, ∀ a, hexIx c = some a → hexd a = c ∧ a < 16 := by
  intro c a h
  unfold hexIx at h
  split at h
  · rename_i g
    simp only [Option.some.injEq] at h
    subst h
    refine ⟨?_, by omega⟩
    unfold hexd
    rw [if_pos (by omega)]
    apply UInt8.toNat.inj
    simp; omega
  · split at h
    · rename_i g
      simp only [Option.some.injEq] at h
      subst h
      refine ⟨?_, by omega⟩
      unfold hexd
      rw [if_neg (by omega)]
      apply UInt8.toNat.inj
      simp; omega
    · cases h

theorem hexd_hexIx : ∀ a < 16, hexIx (hexd a) = some a := by decide

theorem take_four {l : List UInt8} (h : 4 ≤ l.length) : l = l.getD 0 0 :: l.getD 1 0 :: l.getD 2 0 :: l.getD 3 0 :: l.drop 4 := by
  match l, h with
  | a :: b :: c :: d :: r, _ => rfl

theorem spell_hex {c : Nat} (h : ¬ short c) (hc : c < 256) (h34 : c ≠ 34) (h92 : c ≠ 92) : spell c.toUInt8 = [92, 120, hexd (c / 16), hexd (c % 16)] := by
  have e : c.toUInt8.toNat = c := by simp; omega
  unfold short at h
  unfold spell
  rw [e, if_neg (by omega), if_neg (by omega), if_neg (by omega), if_neg (by omega)]

theorem unq_sound {l : List UInt8} {b : UInt8} {n : Nat} (h : unq l = (b, n)) (hn : n ≠ 0) : l = spell b ++ l.drop n ∧ n = (spell b).length := by
  unfold unq at h
  split at h
  · injection h with _ h; omega
  · rename_i h34
    have hnil : l ≠ [] := fun e => by subst e; simp [unquoteL] at h; exact hn h.2.symm
    unfold unquoteL at h
    match l, hnil with
    | c :: r, _ =>
      simp only [List.getD_cons_zero] at h h34
      have h34' : c.toNat ≠ 34 := fun e => h34 (UInt8.toNat.inj e)
      split at h
      · rename_i h1
        split at h
        · injection h with _ h; omega
        · rename_i h2
          injection h with e1 e2
          subst e1 e2
          have : spell c = [c] := by unfold spell; rw [if_neg (by omega), if_neg (by omega), if_neg (by omega), if_pos (by omega)]
          rw [this]; simp
      · rename_i h1
        have ec : c = 92 := UInt8.toNat.inj (by simpa using h1)
        subst ec
        split at h
        · injection h with _ h; omega
        · rename_i h2
          match r, h2 with
          | [], h2 => exact absurd (by simp) h2
          | d :: r', _ =>
            simp only [List.getD_cons_zero, List.getD_cons_succ] at h
            split at h
            · rename_i h3
              injection h with e1 e2
              subst e1 e2
              have : spell d = [92, d] := by unfold spell; rw [if_pos h3]
              rw [this]; simp
            · split at h
              · rename_i h4
                injection h with e1 e2
                subst e1 e2
                have ed : d = 110 := UInt8.toNat.inj h4
                subst ed
                exact ⟨rfl, rfl⟩
              · split at h
                · rename_i h4
                  injection h with e1 e2
                  subst e1 e2
                  have ed : d = 116 := UInt8.toNat.inj h4
                  subst ed
                  exact ⟨rfl, rfl⟩
                · split at h
                  · rename_i h5
                    have ed : d = 120 := UInt8.toNat.inj h5
                    subst ed
                    unfold unhexL at h
                    split at h
                    · injection h with _ h; omega
                    · rename_i h6
                      have e4 := take_four (l := 92 :: 120 :: r') (by omega)
                      split at h
                      · rename_i a b' ha hb
                        obtain ⟨x1, x2⟩ := hexIx_hexd _ _ ha
                        obtain ⟨y1, y2⟩ := hexIx_hexd _ _ hb
                        split at h
                        · injection h with _ h; omega
                        · rename_i h7
                          injection h with e1 e2
                          subst e1 e2
                          have hs := spell_hex h7 (by omega) (by intro e; exact h7 (by unfold short; omega)) (by intro e; exact h7 (by unfold short; omega))
                          have q1 : (a * 16 + b') / 16 = a := by omega
                          have q2 : (a * 16 + b') % 16 = b' := by omega
                          rw [q1, q2, x1, y1] at hs
                          rw [hs]
                          exact ⟨e4, rfl⟩
                      · injection h with _ h; omega
                  · injection h with _ h; omega

theorem spell_ne_nil (c : UInt8) : spell c ≠ [] := by
  unfold spell
  repeat' split
  all_goals simp

theorem unq_spell (c : UInt8) (t : List UInt8) : unq (spell c ++ t) = (c, (spell c).length) := by
  unfold spell
  split
  · rename_i h
    simp only [unq, unquoteL, List.cons_append, List.nil_append, List.getD_cons_zero, List.getD_cons_succ]
    rw [if_neg (by decide), if_neg (by decide), if_neg (by simp), if_pos h]; rfl
  · split
    · rename_i h
      have e : c = 10 := UInt8.toNat.inj h
      subst e; rfl
    · split
      · rename_i h
        have e : c = 9 := UInt8.toNat.inj h
        subst e; rfl
      · split
        · rename_i h1 _ _ h
          simp only [unq, unquoteL, List.cons_append, List.nil_append, List.getD_cons_zero]
          rw [if_neg (fun e => h1 (.inl (by rw [e]; rfl))), if_pos (fun e => h1 (.inr e)), if_neg (by omega)]; rfl
        · rename_i h1 h2 h3 h4
          have hc : c.toNat < 256 := c.toNat_lt
          have a1 := hexd_hexIx (c.toNat / 16) (by omega)
          have a2 := hexd_hexIx (c.toNat % 16) (by omega)
          have e : c.toNat / 16 * 16 + c.toNat % 16 = c.toNat := by omega
          simp only [unq, unquoteL, unhexL, List.cons_append, List.nil_append, List.getD_cons_zero, List.getD_cons_succ, a1, a2, e]
          rw [if_neg (by decide), if_neg (by decide), if_neg (by simp), if_neg (by decide), if_neg (by decide), if_neg (by decide), if_pos (by decide), if_neg (by simp), if_neg (by unfold short; omega)]
          simp

theorem unq_le {l : List UInt8} {b : UInt8} {n : Nat} (h : unq l = (b, n)) (hn : n ≠ 0) : n ≤ l.length := by
  obtain ⟨h1, h2⟩ := unq_sound h hn
  have := congrArg List.length h1
  rw [List.length_append] at this
  omega

/-- The bytes that a text within a literal spells. -/
def dec (acc l : List UInt8) : Option (List UInt8) :=
  if l = [] then some acc else if (unq l).2 = 0 then none else dec (acc ++ [(unq l).1]) (l.drop (unq l).2)
termination_by l.length
decreasing_by
  rename_i h1 h2
  have : 0 < l.length := List.length_pos_iff.2 h1
  simp only [List.length_drop]; omega

theorem dec_nil (acc : List UInt8) : dec acc [] = some acc := by rw [dec, if_pos rfl]
theorem dec_spell (acc : List UInt8) (c : UInt8) (t : List UInt8) : dec acc (spell c ++ t) = dec (acc ++ [c]) t := by
  have hp : 0 < (spell c).length := List.length_pos_iff.2 (spell_ne_nil c)
  rw [dec, if_neg (by simp [spell_ne_nil]), unq_spell, if_neg (by omega)]
  simp

theorem dec_flatMap (o : List UInt8) : ∀ acc, dec acc (o.flatMap spell) = some (acc ++ o) := by
  induction o with
  | nil => intro acc; simp [dec_nil]
  | cons c o ih => intro acc; rw [List.flatMap_cons, dec_spell, ih]; simp

theorem dec_sound : ∀ (n : Nat) (l acc out : List UInt8), l.length ≤ n → dec acc l = some out → ∃ o, out = acc ++ o ∧ l = o.flatMap spell
  | n, [], acc, out, _, h => by rw [dec_nil] at h; exact ⟨[], by simpa using h.symm, rfl⟩
  | 0, _ :: _, _, _, hn, _ => by simp at hn
  | n + 1, c :: l, acc, out, hn, h => by
    rw [dec, if_neg (by simp)] at h
    by_cases h0 : (unq (c :: l)).2 = 0
    · rw [if_pos h0] at h; cases h
    · rw [if_neg h0] at h
      obtain ⟨h1, h2⟩ := unq_sound (l := c :: l) (b := (unq (c :: l)).1) (n := (unq (c :: l)).2) rfl h0
      obtain ⟨o, e1, e2⟩ := dec_sound n _ _ _ (by simp only [List.length_drop, List.length_cons] at hn ⊢; omega) h
      refine ⟨(unq (c :: l)).1 :: o, by rw [e1]; simp, ?_⟩
      rw [List.flatMap_cons, ← e2, ← h1]

/-- The program's road: up to a quotation mark. -/
def scan (acc l : List UInt8) : Option (List UInt8 × List UInt8) :=
  if l = [] then some (acc, []) else if l.getD 0 0 = 34 then some (acc, l) else if (unquoteL l).2 = 0 then none else scan (acc ++ [(unquoteL l).1]) (l.drop (unquoteL l).2)
termination_by l.length
decreasing_by
  rename_i h1 _ h3
  have : 0 < l.length := List.length_pos_iff.2 h1
  simp only [List.length_drop]; omega

theorem scan_suffix : ∀ (n : Nat) (l acc o t : List UInt8), l.length ≤ n → scan acc l = some (o, t) → (∃ p, l = p ++ t) ∧ (t = [] ∨ t.getD 0 0 = 34)
  | n, [], acc, o, t, _, h => by rw [scan, if_pos rfl] at h; injection h with h; injection h with _ h; subst h; exact ⟨⟨[], rfl⟩, .inl rfl⟩
  | 0, _ :: _, _, _, _, hn, _ => by simp at hn
  | n + 1, c :: l, acc, o, t, hn, h => by
    rw [scan, if_neg (by simp)] at h
    by_cases h1 : (c :: l).getD 0 0 = 34
    · rw [if_pos h1] at h; injection h with h; injection h with _ h; subst h; exact ⟨⟨[], rfl⟩, .inr h1⟩
    · rw [if_neg h1] at h
      by_cases h0 : (unquoteL (c :: l)).2 = 0
      · rw [if_pos h0] at h; cases h
      · rw [if_neg h0] at h
        obtain ⟨⟨p, e1⟩, e2⟩ := scan_suffix n _ _ _ _ (by simp only [List.length_drop, List.length_cons] at hn ⊢; omega) h
        exact ⟨⟨(c :: l).take (unquoteL (c :: l)).2 ++ p, by rw [List.append_assoc, ← e1, List.take_append_drop]⟩, e2⟩

theorem unquoteL_ext {r : List UInt8} (hr : r ≠ []) (h34 : r.getD 0 0 ≠ 34) : ((unquoteL (r ++ [34])).2 = (unquoteL r).2 ∧ (unquoteL (r ++ [34])).1 = (unquoteL r).1) ∨ ((unquoteL r).2 = 0 ∧ r = [92]) := by
  match r, hr with
  | [c], _ =>
    by_cases hc : c.toNat = 92
    · have e : c = 92 := UInt8.toNat.inj hc
      subst e; right; exact ⟨rfl, rfl⟩
    · left
      simp only [unquoteL, List.cons_append, List.nil_append, List.getD_cons_zero]
      rw [if_pos hc, if_pos hc]; exact ⟨rfl, rfl⟩
  | [c, d], _ =>
    left
    by_cases hc : c.toNat = 92
    · simp only [unquoteL, unhexL, List.cons_append, List.nil_append, List.getD_cons_zero, List.getD_cons_succ, List.length_cons, List.length_nil]
      simp
    · simp only [unquoteL, List.cons_append, List.nil_append, List.getD_cons_zero]
      rw [if_pos hc, if_pos hc]; exact ⟨rfl, rfl⟩
  | [c, d, e], _ =>
    left
    have h0 : hexIx 34 = none := by decide
    by_cases hc : c.toNat = 92
    · simp only [unquoteL, unhexL, List.cons_append, List.nil_append, List.getD_cons_zero, List.getD_cons_succ, List.length_cons, List.length_nil, h0]
      simp
    · simp only [unquoteL, List.cons_append, List.nil_append, List.getD_cons_zero]
      rw [if_pos hc, if_pos hc]; exact ⟨rfl, rfl⟩
  | c :: d :: e :: f :: g, _ =>
    left
    have l1 : ¬ (c :: d :: e :: f :: (g ++ [34])).length < 2 := by simp
    have l2 : ¬ (c :: d :: e :: f :: (g ++ [34])).length < 4 := by simp
    have l3 : ¬ (c :: d :: e :: f :: g).length < 2 := by simp
    have l4 : ¬ (c :: d :: e :: f :: g).length < 4 := by simp
    simp only [unquoteL, unhexL, List.cons_append, List.getD_cons_zero, List.getD_cons_succ, if_neg l1, if_neg l2, if_neg l3, if_neg l4]
    refine ⟨?_, ?_⟩ <;> first | trivial | rfl

theorem unquoteL_le {r : List UInt8} (h34 : r.getD 0 0 ≠ 34) (h : (unquoteL r).2 ≠ 0) : (unquoteL r).2 ≤ r.length := by
  have e : unq r = unquoteL r := by unfold unq; rw [if_neg h34]
  exact unq_le (l := r) (b := (unquoteL r).1) (n := (unquoteL r).2) e h

theorem scan_dec : ∀ (n : Nat) (r acc : List UInt8), r.length ≤ n →
    match dec acc r with
    | some out => scan acc (r ++ [34]) = some (out, [34])
    | none => ∀ o t, scan acc (r ++ [34]) = some (o, t) → t.length ≠ 1
  | n, [], acc, _ => by
    rw [dec_nil]
    show scan acc [34] = _
    rw [scan, if_neg (by simp), if_pos (by rfl)]
  | 0, _ :: _, _, hn => by simp at hn
  | n + 1, c :: r, acc, hn => by
    by_cases h1 : c = 34
    · have e1 : dec acc (c :: r) = none := by rw [dec, if_neg (by simp), if_pos (by unfold unq; rw [if_pos (by simpa using h1)])]
      rw [e1]
      intro o t ht
      rw [scan, if_neg (by simp), if_pos (by simpa using h1)] at ht
      injection ht with ht; injection ht with _ ht; subst ht; simp
    · have h1' : (c :: r).getD 0 0 ≠ 34 := by simpa using h1
      have h1'' : (c :: r ++ [34]).getD 0 0 ≠ 34 := by simpa using h1
      have eu : unq (c :: r) = unquoteL (c :: r) := by unfold unq; rw [if_neg h1']
      rcases unquoteL_ext (r := c :: r) (by simp) h1' with ⟨x1, x2⟩ | ⟨x1, x2⟩
      · by_cases h0 : (unquoteL (c :: r)).2 = 0
        · have e1 : dec acc (c :: r) = none := by rw [dec, if_neg (by simp), eu, if_pos h0]
          rw [e1]
          intro o t ht
          rw [scan, if_neg (by simp), if_neg h1'', if_pos (by rw [x1]; exact h0)] at ht
          cases ht
        · have hle := unquoteL_le h1' h0
          have e1 : dec acc (c :: r) = dec (acc ++ [(unquoteL (c :: r)).1]) ((c :: r).drop (unquoteL (c :: r)).2) := by rw [dec, if_neg (by simp), eu, if_neg h0]
          have e2 : scan acc (c :: r ++ [34]) = scan (acc ++ [(unquoteL (c :: r)).1]) ((c :: r).drop (unquoteL (c :: r)).2 ++ [34]) := by
            rw [scan, if_neg (by simp), if_neg h1'', x1, x2, if_neg h0, List.drop_append_of_le_length hle]
          rw [e1, e2]
          exact scan_dec n _ _ (by simp only [List.length_drop, List.length_cons] at hn ⊢; omega)
      · have e1 : dec acc (c :: r) = none := by rw [dec, if_neg (by simp), eu, if_pos x1]
        rw [e1, x2]
        intro o t ht
        rw [scan, if_neg (by simp), if_neg (by decide)] at ht
        have : (unquoteL ([92] ++ [34])) = (34, 2) := rfl
        rw [this, if_neg (by decide)] at ht
        rw [scan, if_pos (by rfl)] at ht
        injection ht with ht; injection ht with _ ht; subst ht; simp

/-- The zero value. -/
def V0 : V := ⟨0, 0, ⟨#[]⟩⟩
def strV (l : List UInt8) : V := ⟨2, 0, ⟨l.toArray⟩⟩

/-- value.Str: the value and the error's number. -/
def makeStr (o : List UInt8) : V × Int := if 24 < o.length then (V0, 13) else (strV o, 0)

/-- A literal that begins with a quotation mark, behind it. -/
def pStr (l : List UInt8) : V × Int := match scan [] l with
  | none => (V0, 15)
  | some (o, t) => if t.length = 1 then makeStr o else (V0, 15)
/-- The same, the document's road. -/
def rStr (l : List UInt8) : V × Int := if l.getLast? = some 34 then (match dec [] l.dropLast with
  | none => (V0, 15)
  | some o => makeStr o) else (V0, 15)

theorem pStr_eq (l : List UInt8) : pStr l = rStr l := by
  unfold pStr rStr
  by_cases hl : l.getLast? = some 34
  · rw [if_pos hl]
    have e : l = l.dropLast ++ [34] := by
      have hn : l ≠ [] := fun e => by subst e; cases hl
      rw [List.getLast?_eq_some_getLast hn, Option.some.injEq] at hl
      rw [← hl, List.dropLast_concat_getLast hn]
    have key := scan_dec l.dropLast.length l.dropLast [] (Nat.le_refl _)
    rw [← e] at key
    cases hd : dec [] l.dropLast with
    | none =>
      rw [hd] at key
      cases hs : scan [] l with
      | none => rfl
      | some x => obtain ⟨o, t⟩ := x; simp only; rw [if_neg (key o t hs)]
    | some out =>
      rw [hd] at key
      simp only at key
      rw [key]; simp
  · rw [if_neg hl]
    cases hs : scan [] l with
    | none => rfl
    | some x =>
      obtain ⟨o, t⟩ := x
      simp only
      by_cases ht : t.length = 1
      · exfalso
        obtain ⟨⟨p, e1⟩, e2⟩ := scan_suffix l.length l [] o t (Nat.le_refl _) hs
        match t, ht with
        | [c], _ =>
          rcases e2 with e2 | e2
          · cases e2
          · simp only [List.getD_cons_zero] at e2
            subst e2
            exact hl (by rw [e1]; simp)
      · rw [if_neg ht]

end Go.Proofs.YtgeapgbebbapmaaDoor
