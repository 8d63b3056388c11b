/-
  PARTS of a claim, merged by segs.py: Lit2, Lex, Lex2.
-/
import Derived.Test.YtjhnopnppimnhaaGreatDoorZ01
import Derived.Lib.ParseIntB
import Derived.Lib.ParseIntBCases
namespace Go.Proofs.YtjhnopnppimnhaaGreatDoor

/-! ### Lit2 -/
section

def isDig (c : UInt8) : Prop := 48 ≤ c.toNat ∧ c.toNat ≤ 57
instance (c : UInt8) : Decidable (isDig c) := by unfold isDig; infer_instance
/-- Are all bytes digits? -/
def digs (l : List UInt8) : Bool := l.all fun c => decide (isDig c)
theorem digs_iff {l : List UInt8} : digs l = true ↔ ∀ c ∈ l, isDig c := by simp [digs]

/-- A numeral: its sign, its digits. -/
def negL (l : List UInt8) : Bool := l.getD 0 0 == 45
def magL (l : List UInt8) : List UInt8 := if negL l = true then l.drop 1 else l
def topL (l : List UInt8) : Nat := if negL l = true then 9223372036854775808 else 9223372036854775807
def intV1 (n : Int) : V := ⟨1, n, ⟨#[]⟩⟩
/-- An integer literal: the value and the error's number. -/
def pInt (l : List UInt8) : V × Int :=
  if magL l = [] ∨ ((magL l).getD 0 0 = 48 ∧ (1 < (magL l).length ∨ negL l = true)) then (V0, 15)
  else if digs (magL l) = false then (V0, 15)
  else if topL l < numVal (magL l) then (V0, 3)
  else (intV1 (if negL l = true then - (numVal (magL l) : Int) else numVal (magL l)), 0)

/-- A literal: the value and the error's number. -/
def parseL (l : List UInt8) : V × Int := if l = [] then (V0, 10) else if l.getD 0 0 = 34 then pStr (l.drop 1) else pInt l

theorem pInt_none {l : List UInt8} (h : ¬ isDig (l.getD 0 0)) (h1 : l.getD 0 0 ≠ 45) : pInt l = (V0, 15) := by
  have e : negL l = false := by unfold negL; simpa using h1
  have em : magL l = l := by unfold magL; rw [e]; rfl
  unfold pInt
  rw [em]
  split
  · rfl
  · rename_i h2
    have : digs l = false := by
      match l with
      | [] => exact absurd (.inl rfl) h2
      | c :: r =>
        cases hd : digs (c :: r)
        · rfl
        · exact absurd (digs_iff.1 hd c (by simp)) h
    rw [if_pos this]

theorem numVal_cons_le (l : List UInt8) (a : Nat) : a ≤ l.foldl (fun a c => a * 10 + (c.toNat - 48)) a := by
  induction l generalizing a with
  | nil => simp
  | cons d l ih => simp only [List.foldl_cons]; have := ih (a * 10 + (d.toNat - 48)); omega

theorem parseM_eq (d : List UInt8) : ∀ acc N, (∀ c ∈ d, isDig c) → acc ≤ 18446744073709551615 → d.foldl (fun a c => a * 10 + (c.toNat - 48)) acc = N →
    Lib.parseUintM 18446744073709551615 acc d = if N ≤ 18446744073709551615 then .ok N else .range := by
  induction d with
  | nil => intro acc N _ h e; simp only [List.foldl_nil] at e; subst e; rw [if_pos h]; rfl
  | cons c d ih =>
    intro acc N hd hacc e
    have hc := hd c (by simp)
    have hm := numVal_cons_le d (acc * 10 + (c.toNat - 48))
    unfold isDig at hc
    simp only [List.foldl_cons] at e
    rw [e] at hm
    simp only [Lib.parseUintM]
    rw [if_pos hc]
    by_cases h1 : 1844674407370955162 ≤ acc
    · rw [if_pos h1, if_neg (by omega)]
    · rw [if_neg h1]
      by_cases h2 : 18446744073709551615 < acc * 10 + (c.toNat - 48)
      · rw [if_pos h2, if_neg (by omega)]
      · rw [if_neg h2, ih _ N (fun x hx => hd x (by simp [hx])) (by omega) e]

theorem parseU_eq {d : List UInt8} (hd : ∀ c ∈ d, isDig c) (hn : d ≠ []) : Lib.parseUintB 64 d = if numVal d ≤ 18446744073709551615 then .ok (numVal d) else .range := by
  unfold Lib.parseUintB
  rw [if_neg hn]
  exact parseM_eq d 0 _ hd (by omega) rfl

/-- What strconv.ParseInt makes of a sign and digits. -/
theorem parseI_eq {l : List UInt8} (hn : magL l ≠ []) (hd : digs (magL l) = true) :
    Lib.parseIntB 64 l = if topL l < numVal (magL l) then .range else .ok (if negL l = true then - (numVal (magL l) : Int) else numVal (magL l)) := by
  have hd := digs_iff.1 hd
  have hU := parseU_eq hd hn
  match l with
  | [] => exact absurd rfl hn
  | c :: r =>
    by_cases h45 : c = 45
    · subst h45
      have e1 : negL (45 :: r) = true := rfl
      have e2 : magL (45 :: r) = r := rfl
      have e3 : topL (45 :: r) = 9223372036854775808 := rfl
      rw [e2] at hU
      rw [e1, e2, e3, if_pos rfl]
      have ep : Lib.parseUintB 64 (if (45 : UInt8).toNat = 43 ∨ (45 : UInt8).toNat = 45 then r else 45 :: r) = Lib.parseUintB 64 r := by rw [if_pos (by decide)]
      simp only [Lib.parseIntB, ep, hU]
      by_cases h1 : numVal r ≤ 18446744073709551615
      · rw [if_pos h1]
        by_cases h2 : 9223372036854775808 < numVal r
        · rw [if_pos h2]; simp; omega
        · rw [if_neg h2]; simp; omega
      · rw [if_neg h1, if_pos (by omega)]
    · have e1 : negL (c :: r) = false := by unfold negL; simpa using h45
      have e2 : magL (c :: r) = c :: r := by unfold magL; rw [e1]; rfl
      have e3 : topL (c :: r) = 9223372036854775807 := by unfold topL; rw [e1]; rfl
      rw [e2] at hd hU
      have hc := hd c (by simp)
      unfold isDig at hc
      rw [e1, e2, e3]
      have ep : Lib.parseUintB 64 (if c.toNat = 43 ∨ c.toNat = 45 then r else c :: r) = Lib.parseUintB 64 (c :: r) := by rw [if_neg (by omega)]
      have hne : c.toNat ≠ 45 := by omega
      simp only [Lib.parseIntB, ep, hU]
      by_cases h1 : numVal (c :: r) ≤ 18446744073709551615
      · rw [if_pos h1]
        by_cases h2 : 9223372036854775807 < numVal (c :: r)
        · rw [if_pos h2]; simp; omega
        · rw [if_neg h2]; simp [hne]; omega
      · rw [if_neg h1, if_pos (by omega)]

/-- The document's road. -/
def rParse (l : List UInt8) : V × Int :=
  if l = [] then (V0, 10) else if l.getD 0 0 = 45 ∨ isDig (l.getD 0 0) then pInt l
  else if l.length < 2 ∨ l.getD 0 0 ≠ 34 ∨ l.getD (l.length - 1) 0 ≠ 34 then (V0, 15)
  else match dec [] ((l.drop 1).take (l.length - 2)) with
    | none => (V0, 15)
    | some o => makeStr o

theorem rParse_eq (l : List UInt8) : rParse l = parseL l := by
  unfold rParse parseL
  by_cases h0 : l = []
  · rw [if_pos h0, if_pos h0]
  · rw [if_neg h0, if_neg h0]
    by_cases h34 : l.getD 0 0 = 34
    · rw [if_pos h34, if_neg (by rw [h34]; decide), pStr_eq]
      unfold rStr
      match l, h0 with
      | c :: r, _ =>
        have e1 : (c :: r).drop 1 = r := rfl
        have e2 : r.take ((c :: r).length - 2) = r.dropLast := by rw [List.dropLast_eq_take]; simp
        rw [e1, e2]
        by_cases hr : r = []
        · subst hr; rfl
        · have e3 : (c :: r).getD ((c :: r).length - 1) 0 = r.getLast hr := by
            have hp := List.length_pos_iff.2 hr
            rw [List.getLast_eq_getElem, List.getD_eq_getElem?_getD, List.getElem?_cons]
            simp only [List.length_cons, Nat.add_sub_cancel]
            rw [if_neg (by omega), List.getElem?_eq_getElem (by omega)]; rfl
          rw [e3, List.getLast?_eq_some_getLast hr]
          by_cases hl : r.getLast hr = 34
          · have hp := List.length_pos_iff.2 hr
            rw [if_neg (by
              simp only [List.length_cons]; intro h
              rcases h with h | h | h
              · omega
              · exact h h34
              · exact h hl), if_pos (by rw [hl])]
            cases dec [] r.dropLast <;> rfl
          · rw [if_pos (.inr (.inr hl)), if_neg (by simpa using hl)]
    · rw [if_neg h34]
      by_cases hd : l.getD 0 0 = 45 ∨ isDig (l.getD 0 0)
      · rw [if_pos hd]
      · rw [if_neg hd, if_pos (.inr (.inl h34)), pInt_none (fun h => hd (.inr h)) (fun h => hd (.inl h))]

theorem dec_head_zero (u : Nat) (h : (Lib.decDigits u).getD 0 0 = 48) : u = 0 := by
  induction u using Nat.strongRecOn with
  | _ u ih =>
    by_cases hu : u < 10
    · rw [Lib.decDigits_one hu] at h
      have := digit_toNat u hu
      simp only [List.getD_cons_zero] at h
      rw [h] at this
      simp at this; omega
    · rw [Lib.decDigits, dif_neg hu] at h
      have hn := dec_ne_nil (u / 10)
      have hh : (Lib.decDigits (u / 10)).getD 0 0 = 48 := by
        cases hl : Lib.decDigits (u / 10) with
        | nil => exact absurd hl hn
        | cons a b => rw [hl] at h; simpa using h
      have := ih (u / 10) (by omega) hh
      omega

theorem numVal_pos {l : List UInt8} (h : ∀ c ∈ l, isDig c) (hn : l ≠ []) (h0 : l.getD 0 0 ≠ 48) : 0 < numVal l := by
  match l, hn with
  | c :: r, _ =>
    have hc := h c (by simp)
    unfold isDig at hc
    have := numVal_cons_le r (0 * 10 + (c.toNat - 48))
    have h0' : c.toNat ≠ 48 := fun e => h0 (UInt8.toNat.inj e)
    show 0 < List.foldl _ _ _
    simp only [List.foldl_cons]; omega

theorem list_snoc {α : Type} (l : List α) (h : l ≠ []) : ∃ r c, l = r ++ [c] := ⟨l.dropLast, l.getLast h, (List.dropLast_concat_getLast h).symm⟩

theorem dec_numVal : ∀ (n : Nat) (l : List UInt8), l.length ≤ n → (∀ c ∈ l, isDig c) → l ≠ [] → (l.getD 0 0 = 48 → l.length = 1) → Lib.decDigits (numVal l) = l
  | 0, l, hl, _, hn, _ => by have := List.length_pos_iff.2 hn; omega
  | n + 1, l, hl, hd, hn, h0 => by
    obtain ⟨r, c, rfl⟩ := list_snoc l hn
    have hc := hd c (by simp)
    unfold isDig at hc
    have ec : UInt8.ofNat (48 + (c.toNat - 48)) = c := by
      apply UInt8.toNat.inj
      rw [digit_toNat _ (by omega)]; omega
    rw [numVal_snoc]
    by_cases hr : r = []
    · subst hr
      have : numVal [] * 10 + (c.toNat - 48) = c.toNat - 48 := by simp [numVal]
      rw [this, Lib.decDigits_one (by omega), ec]; rfl
    · have hp := List.length_pos_iff.2 hr
      have hh : (r ++ [c]).getD 0 0 = r.getD 0 0 := by
        cases r with
        | nil => exact absurd rfl hr
        | cons a b => rfl
      have h48 : r.getD 0 0 ≠ 48 := fun e => by have := h0 (by rw [hh]; exact e); simp at this; exact hr this
      have hpos := numVal_pos (fun x hx => hd x (by simp [hx])) hr h48
      have ih := dec_numVal n r (by simp at hl; omega) (fun x hx => hd x (by simp [hx])) hr (fun e => absurd e h48)
      rw [Lib.decDigits, dif_neg (by omega)]
      have q1 : (numVal r * 10 + (c.toNat - 48)) / 10 = numVal r := by omega
      have q2 : (numVal r * 10 + (c.toNat - 48)) % 10 = c.toNat - 48 := by omega
      rw [q1, q2, ih, ec]

theorem V.ext' {a b : V} (h1 : a.k = b.k) (h2 : a.n = b.n) (h3 : a.s = b.s) : a = b := by cases a; cases b; simp_all

theorem dec_getD (u : Nat) : isDig ((Lib.decDigits u).getD 0 0) := by
  have h := dec_digits u
  cases hl : Lib.decDigits u with
  | nil => exact absurd hl (dec_ne_nil u)
  | cons a b => exact h a (by rw [hl]; simp)

/-- THERE: the literal of a valid value is read back. -/
theorem parse_text {v : V} (hv : v.valid = true) (hn : I64 v.n) : parseL (textL v) = (v, 0) := by
  unfold V.valid at hv
  by_cases h1 : v.k = 1
  · rw [if_pos h1] at hv
    have hval : v.valid = true := by unfold V.valid; rw [if_pos h1]; exact hv
    have hs : v.s = ⟨#[]⟩ := by
      obtain ⟨k, n, ⟨⟨s⟩⟩⟩ := v
      have : (⟨⟨s⟩⟩ : ByteArray).toList = s := Lib.toList_data _
      rw [this] at hv
      cases s with
      | nil => rfl
      | cons a b => simp at hv
    rw [textL_int hval h1]
    have hne := itoa_ne_nil v.n
    by_cases hneg : v.n < 0
    · have e : Lib.itoa v.n = 45 :: Lib.decDigits v.n.natAbs := by unfold Lib.itoa; rw [if_pos hneg]
      have e1 : negL (Lib.itoa v.n) = true := by rw [e]; rfl
      have e2 : magL (Lib.itoa v.n) = Lib.decDigits v.n.natAbs := by unfold magL; rw [e1, e]; rfl
      have e3 : topL (Lib.itoa v.n) = 9223372036854775808 := by unfold topL; rw [e1]; rfl
      unfold parseL
      rw [if_neg hne, if_neg (by rw [e]; simp)]
      unfold pInt
      rw [e1, e2, e3, numVal_dec]
      have hi := hn.1
      have := dec_ne_nil v.n.natAbs
      rw [if_neg (by
        intro h
        rcases h with h | ⟨h, _⟩
        · exact this h
        · have := dec_head_zero _ h; omega), if_neg (by rw [digs_iff.2 (dec_digits _)]; simp), if_neg (by omega), if_pos rfl]
      congr 1
      exact V.ext' h1.symm (by show -(v.n.natAbs : Int) = v.n; omega) hs.symm
    · have e : Lib.itoa v.n = Lib.decDigits v.n.toNat := by unfold Lib.itoa; rw [if_neg hneg]
      have hdg := dec_getD v.n.toNat
      unfold isDig at hdg
      have e1 : negL (Lib.itoa v.n) = false := by
        unfold negL; rw [e]
        cases hb : (Lib.decDigits v.n.toNat).getD 0 0 == 45
        · rfl
        · rw [eq_of_beq hb] at hdg; revert hdg; decide
      have e2 : magL (Lib.itoa v.n) = Lib.decDigits v.n.toNat := by unfold magL; rw [e1, e]; rfl
      have e3 : topL (Lib.itoa v.n) = 9223372036854775807 := by unfold topL; rw [e1]; rfl
      unfold parseL
      rw [if_neg hne, if_neg (by rw [e]; intro h; rw [h] at hdg; revert hdg; decide)]
      unfold pInt
      rw [e1, e2, e3, numVal_dec]
      have hi := hn.2
      have := dec_ne_nil v.n.toNat
      rw [if_neg (by
        intro h
        rcases h with h | ⟨h, h'⟩
        · exact this h
        · have h0 := dec_head_zero _ h
          rw [h0, Lib.decDigits_one (by omega)] at h'
          simp at h'), if_neg (by rw [digs_iff.2 (dec_digits _)]; simp), if_neg (by omega), if_neg (by simp)]
      congr 1
      exact V.ext' h1.symm (by show (v.n.toNat : Int) = v.n; omega) hs.symm
  · rw [if_neg h1] at hv
    by_cases h2 : v.k = 2
    · rw [if_pos h2, Bool.and_eq_true, decide_eq_true_eq, decide_eq_true_eq] at hv
      have hval : v.valid = true := by unfold V.valid; rw [if_neg h1, if_pos h2]; simpa using hv
      rw [textL_str hval h1]
      unfold parseL quoteL
      rw [if_neg (by simp), if_pos (by rfl)]
      show pStr ((v.s.data.toList.flatMap spell) ++ [34]) = _
      rw [pStr_eq]
      unfold rStr
      rw [if_pos (by simp), List.dropLast_concat, dec_flatMap]
      simp only [List.nil_append]
      unfold makeStr
      rw [if_neg (by have := hv.2; have e : v.s.data.toList.length = v.s.size := by simp
                     omega)]
      congr 1
      exact V.ext' h2.symm hv.1.symm (by simp [strV])
    · rw [if_neg h2] at hv; cases hv

theorem mag_cons {l : List UInt8} : l = (if negL l = true then 45 :: magL l else magL l) := by
  unfold magL
  cases h : negL l
  · simp
  · simp only [if_true]
    unfold negL at h
    have := eq_of_beq h
    match l with
    | [] => cases this
    | c :: r =>
      have e : c = 45 := this
      subst e; rfl

/-- BACK: what is read has the text that was read. -/
theorem text_parse {l : List UInt8} {v : V} (h : parseL l = (v, 0)) : v.valid = true ∧ textL v = l ∧ I64 v.n ∧ v.s.size ≤ 24 := by
  unfold parseL at h
  split at h
  · injection h with _ h; cases h
  · rename_i h0
    split at h
    · rename_i h34
      rw [pStr_eq] at h
      unfold rStr at h
      split at h
      · rename_i hl
        split at h
        · injection h with _ h; cases h
        · rename_i o hd
          unfold makeStr at h
          split at h
          · injection h with _ h; cases h
          · rename_i ho
            injection h with h _
            subst h
            obtain ⟨o', e1, e2⟩ := dec_sound _ _ _ _ (Nat.le_refl _) hd
            simp only [List.nil_append] at e1
            subst e1
            have hval : (strV o).valid = true := by
              have : (⟨o.toArray⟩ : ByteArray).size = o.length := by simp [ByteArray.size]
              simp [V.valid, strV, this]; omega
            refine ⟨hval, ?_, by simp [strV, I64], by show ByteArray.size ⟨o.toArray⟩ ≤ 24; simp [ByteArray.size]; omega⟩
            rw [textL_str hval (by simp [strV])]
            unfold quoteL
            show 34 :: (o.flatMap spell ++ [34]) = l
            rw [← e2]
            have hn : l.drop 1 ≠ [] := fun e => by rw [e] at hl; cases hl
            rw [List.getLast?_eq_some_getLast hn, Option.some.injEq] at hl
            have e3 : (l.drop 1).dropLast ++ [34] = l.drop 1 := by rw [← hl, List.dropLast_concat_getLast]
            rw [e3]
            match l, h0 with
            | c :: r, _ =>
              have ec : c = 34 := h34
              rw [ec]; rfl
      · injection h with _ h; cases h
    · unfold pInt at h
      split at h
      · injection h with _ h; cases h
      · rename_i hA
        split at h
        · injection h with _ h; cases h
        · rename_i hB
          split at h
          · injection h with _ h; cases h
          · rename_i hC
            injection h with h _
            subst h
            have hdg := digs_iff.1 (show digs (magL l) = true by simpa using hB)
            have hmn : magL l ≠ [] := fun e => hA (.inl e)
            have hval : (intV1 (if negL l = true then - (numVal (magL l) : Int) else numVal (magL l))).valid = true := by
              have : (⟨#[]⟩ : ByteArray).toList = [] := Lib.toList_data _
              simp [V.valid, intV1, this]
            have h48 : (magL l).getD 0 0 = 48 → (magL l).length = 1 := fun e => by
              have := List.length_pos_iff.2 hmn
              by_cases hlen : 1 < (magL l).length
              · exact absurd (.inr ⟨e, .inl hlen⟩) hA
              · omega
            have hdv := dec_numVal _ _ (Nat.le_refl _) hdg hmn h48
            have hm := mag_cons (l := l)
            refine ⟨hval, ?_, ?_, by show 0 ≤ 24; omega⟩
            · rw [textL_int hval rfl]
              unfold topL at hC
              show Lib.itoa (if negL l = true then - (numVal (magL l) : Int) else numVal (magL l)) = l
              unfold Lib.itoa
              cases hneg : negL l
              · rw [hneg] at hm
                simp only [Bool.false_eq_true, if_false] at hm ⊢
                rw [if_neg (by omega), Int.toNat_natCast, hdv]; exact hm.symm
              · rw [hneg] at hm
                simp only [if_true] at hm ⊢
                have hpos : 0 < numVal (magL l) := numVal_pos hdg hmn (fun e => hA (.inr ⟨e, .inr hneg⟩))
                rw [if_pos (by omega), Int.natAbs_neg, Int.natAbs_natCast, hdv]; exact hm.symm
            · unfold topL at hC
              show I64 (if negL l = true then - (numVal (magL l) : Int) else numVal (magL l))
              unfold I64
              cases hneg : negL l
              · rw [hneg] at hC; simp only [Bool.false_eq_true, if_false] at hC ⊢; omega
              · rw [hneg] at hC; simp only [if_true] at hC ⊢; omega

theorem makeStr_bad {o : List UInt8} (h : (makeStr o).2 ≠ 0) : (makeStr o).1 = V0 := by
  unfold makeStr at h ⊢
  split
  · rfl
  · rename_i g; rw [if_neg g] at h; exact absurd rfl h

end

/-! ### Lex -/
section

structure Tok where
  k : Int
  t : List UInt8
  v : V
  a : Int

def T0 : Tok := ⟨0, [], V0, 0⟩
def letB (c : UInt8) : Bool := (decide (97 ≤ c.toNat) && decide (c.toNat ≤ 122)) || (decide (65 ≤ c.toNat) && decide (c.toNat ≤ 90))
def digB (c : UInt8) : Bool := decide (48 ≤ c.toNat) && decide (c.toNat ≤ 57)
def wrdB (c : UInt8) : Bool := letB c || digB c || c == 95
def whtB (c : UInt8) : Bool := c == 32 || c == 9 || c == 10 || c == 13

/-- The number of letters, digits and underscores at the beginning. -/
def wordLen (l : List UInt8) : Nat := (l.takeWhile wrdB).length
/-- The bytes up to the closing quotation mark; e: the byte before was a backslash. -/
def strGo : Bool → List UInt8 → Option Nat
  | _, [] => none
  | true, _ :: r => (strGo false r).map (· + 1)
  | false, c :: r => if c = 92 then (strGo true r).map (· + 1) else if c = 34 then some 1 else (strGo false r).map (· + 1)
def strLen (l : List UInt8) : Option Nat := (strGo false (l.drop 1)).map (· + 1)

def symL : List (List UInt8) := [[58, 45], [33, 61], [60, 61], [62, 61], [40], [41], [44], [59], [124], [61], [60], [62]]
/-- count, desc, max, min, not, order, sum -/
def keyL7 : List (List UInt8) := [[99, 111, 117, 110, 116], [100, 101, 115, 99], [109, 97, 120], [109, 105, 110], [110, 111, 116], [111, 114, 100, 101, 114], [115, 117, 109]]

def wordTok (r : List UInt8) (a : Int) : Tok × Int :=
  if keyL7.contains (r.take (wordLen r)) = true then (⟨5, r.take (wordLen r), V0, a⟩, 0) else if 16 < (r.take (wordLen r)).length then (T0, 7) else (⟨1, r.take (wordLen r), V0, a⟩, 0)
def litTok (k : Int) (x : List UInt8) (a : Int) : Tok × Int := if (parseL x).2 = 0 then (⟨k, x, (parseL x).1, a⟩, 0) else (T0, (parseL x).2)
def symTok (r : List UInt8) (a : Int) : Tok × Int := match symL.find? (fun y => y.isPrefixOf r) with
  | some y => (⟨4, y, V0, a⟩, 0)
  | none => (T0, 15)
/-- Does a number begin here? -/
def numB (r : List UInt8) : Bool := digB (r.getD 0 0) || (r.getD 0 0 == 45 && (decide (1 < r.length) && digB (r.getD 1 0)))
/-- The token at the beginning of a text that is not empty and does not begin with white space. -/
def nextL (r : List UInt8) (a : Int) : Tok × Int :=
  if letB (r.getD 0 0) = true then wordTok r a
  else if numB r = true then litTok 2 (r.take (1 + wordLen (r.drop 1))) a
  else if r.getD 0 0 = 34 then (match strLen r with
    | none => (T0, 14)
    | some n => litTok 3 (r.take n) a)
  else symTok r a

theorem wordLen_le (l : List UInt8) : wordLen l ≤ l.length := by
  unfold wordLen
  exact (List.takeWhile_prefix _).length_le
theorem wordLen_take (l : List UInt8) : l.take (wordLen l) = l.takeWhile wrdB :=
  (List.prefix_iff_eq_take.1 (List.takeWhile_prefix wrdB)).symm

theorem strGo_le : ∀ (l : List UInt8) (e : Bool) (n : Nat), strGo e l = some n → 0 < n ∧ n ≤ l.length
  | [], e, n, h => by cases e <;> simp [strGo] at h
  | c :: r, true, n, h => by
    simp only [strGo, Option.map_eq_some_iff] at h
    obtain ⟨m, hm, rfl⟩ := h
    have := strGo_le r _ m hm
    simp only [List.length_cons]; omega
  | c :: r, false, n, h => by
    simp only [strGo] at h
    split at h
    · simp only [Option.map_eq_some_iff] at h
      obtain ⟨m, hm, rfl⟩ := h
      have := strGo_le r _ m hm
      simp only [List.length_cons]; omega
    · split at h
      · injection h with h; subst h; simp
      · simp only [Option.map_eq_some_iff] at h
        obtain ⟨m, hm, rfl⟩ := h
        have := strGo_le r _ m hm
        simp only [List.length_cons]; omega

theorem strGo_ext : ∀ (l : List UInt8) (e : Bool) (n : Nat) (u : List UInt8), strGo e l = some n → strGo e (l ++ u) = some n
  | [], e, n, u, h => by cases e <;> simp [strGo] at h
  | c :: r, true, n, u, h => by
    simp only [strGo, Option.map_eq_some_iff, List.cons_append] at h ⊢
    obtain ⟨m, hm, rfl⟩ := h
    exact ⟨m, strGo_ext r _ m u hm, rfl⟩
  | c :: r, false, n, u, h => by
    simp only [strGo, List.cons_append] at h ⊢
    split at h
    · rename_i g
      rw [if_pos g]
      simp only [Option.map_eq_some_iff] at h ⊢
      obtain ⟨m, hm, rfl⟩ := h
      exact ⟨m, strGo_ext r _ m u hm, rfl⟩
    · rename_i g
      rw [if_neg g]
      split at h
      · rename_i g2
        rw [if_pos g2]; exact h
      · rename_i g2
        rw [if_neg g2]
        simp only [Option.map_eq_some_iff] at h ⊢
        obtain ⟨m, hm, rfl⟩ := h
        exact ⟨m, strGo_ext r _ m u hm, rfl⟩

theorem strGo_cut : ∀ (l : List UInt8) (e : Bool) (n : Nat), strGo e l = some n → strGo e (l.take n) = some n
  | [], e, n, h => by cases e <;> simp [strGo] at h
  | c :: r, true, n, h => by
    simp only [strGo, Option.map_eq_some_iff] at h
    obtain ⟨m, hm, rfl⟩ := h
    simp only [List.take_succ_cons, strGo, strGo_cut r _ m hm, Option.map_some]
  | c :: r, false, n, h => by
    simp only [strGo] at h
    split at h
    · rename_i g
      simp only [Option.map_eq_some_iff] at h
      obtain ⟨m, hm, rfl⟩ := h
      simp only [List.take_succ_cons, strGo, if_pos g, strGo_cut r _ m hm, Option.map_some]
    · rename_i g
      split at h
      · rename_i g2
        injection h with h; subst h
        simp only [List.take_succ_cons, strGo, if_neg g, if_pos g2]
      · rename_i g2
        simp only [Option.map_eq_some_iff] at h
        obtain ⟨m, hm, rfl⟩ := h
        simp only [List.take_succ_cons, strGo, if_neg g, if_neg g2, strGo_cut r _ m hm, Option.map_some]

theorem strLen_le {l : List UInt8} {n : Nat} (h : strLen l = some n) : 2 ≤ n ∧ n ≤ l.length := by
  unfold strLen at h
  simp only [Option.map_eq_some_iff] at h
  obtain ⟨m, hm, rfl⟩ := h
  have := strGo_le _ _ m hm
  rw [List.length_drop] at this
  omega

theorem symTok_ok {r : List UInt8} {a : Int} {t : Tok} (h : symTok r a = (t, 0)) : ∃ y, symL.find? (fun y => y.isPrefixOf r) = some y ∧ t = ⟨4, y, V0, a⟩ := by
  unfold symTok at h
  split at h
  · rename_i y hy
    injection h with h1 _
    exact ⟨y, hy, h1.symm⟩
  · injection h with _ h2
    exact absurd h2 (by decide)

theorem litTok_ok {k : Int} {x : List UInt8} {a : Int} {t : Tok} (h : litTok k x a = (t, 0)) : parseL x = (t.v, 0) ∧ t = ⟨k, x, t.v, a⟩ := by
  unfold litTok at h
  split at h
  · rename_i g
    injection h with h1 _
    subst h1
    exact ⟨Prod.ext rfl g, rfl⟩
  · rename_i g
    injection h with _ h2
    exact absurd h2 g

/-- What is known of a token. -/
theorem nextL_ok {r : List UInt8} {a : Int} {t : Tok} (hr : r ≠ []) (h : nextL r a = (t, 0)) :
    t.t <+: r ∧ t.t ≠ [] ∧ t.a = a ∧ ((t.k = 2 ∨ t.k = 3) ∧ parseL t.t = (t.v, 0) ∨ (t.k = 1 ∨ t.k = 4 ∨ t.k = 5) ∧ t.v = V0) := by
  unfold nextL at h
  split at h
  · rename_i g
    have hne : r.take (wordLen r) ≠ [] := by
      rw [wordLen_take]
      match r, hr with
      | c :: r', _ =>
        have : wrdB c = true := by unfold wrdB; simp at g; rw [g]; rfl
        simp [this]
    unfold wordTok at h
    split at h
    · injection h with h1 _
      subst h1
      exact ⟨List.take_prefix _ _, hne, rfl, .inr ⟨.inr (.inr rfl), rfl⟩⟩
    · split at h
      · injection h with _ h2; exact absurd h2 (by decide)
      · injection h with h1 _
        subst h1
        exact ⟨List.take_prefix _ _, hne, rfl, .inr ⟨.inl rfl, rfl⟩⟩
  · split at h
    · obtain ⟨h1, h2⟩ := litTok_ok h
      rw [h2]
      refine ⟨List.take_prefix _ _, ?_, rfl, .inl ⟨.inl rfl, h1⟩⟩
      match r, hr with
      | c :: r', _ => simp [Nat.add_comm 1]
    · split at h
      · split at h
        · injection h with _ h2; exact absurd h2 (by decide)
        · rename_i n hn
          obtain ⟨h1, h2⟩ := litTok_ok h
          have hle := strLen_le hn
          rw [h2]
          refine ⟨List.take_prefix _ _, ?_, rfl, .inl ⟨.inr rfl, h1⟩⟩
          intro e
          have h3 : (r.take n).length = 0 := congrArg List.length e
          rw [List.length_take] at h3
          omega
      · obtain ⟨y, hy, rfl⟩ := symTok_ok h
        have hp := List.find?_some hy
        have hm := List.mem_of_find?_eq_some hy
        refine ⟨List.isPrefixOf_iff_prefix.1 hp, ?_, rfl, .inr ⟨.inr (.inl rfl), rfl⟩⟩
        intro e
        simp only at e
        subst e
        revert hm; decide

/-- The tokens of a text, from the offset a on: the tokens, the offset of an error, the error's number. -/
def scan1 (l : List UInt8) (a : Int) : List Tok × Int × Int :=
  match l with
  | [] => ([⟨0, [], V0, a⟩], 0, 0)
  | c :: r =>
    if whtB c = true then scan1 r (a + 1)
    else if (nextL (c :: r) a).2 ≠ 0 then ([], a, (nextL (c :: r) a).2)
    else if (nextL (c :: r) a).1.t.length = 0 then ([], a, 0)
    else
      let x := scan1 ((c :: r).drop (nextL (c :: r) a).1.t.length) (a + (nextL (c :: r) a).1.t.length)
      if x.2.2 = 0 then ((nextL (c :: r) a).1 :: x.1, 0, 0) else x
termination_by l.length
decreasing_by
  · simp
  · rw [List.length_drop]; simp only [List.length_cons]; omega
end

/-! ### Lex2 -/
section

theorem takeWhile_stop {p : UInt8 → Bool} {c : UInt8} (hc : p c = false) : ∀ (r u : List UInt8), (r ++ c :: u).takeWhile p = r.takeWhile p
  | [], u => by simp [hc]
  | x :: r, u => by
    simp only [List.cons_append, List.takeWhile_cons]
    split
    · rw [takeWhile_stop hc r u]
    · rfl
theorem wht_not_wrd {c : UInt8} (h : whtB c = true) : wrdB c = false ∧ digB c = false ∧ letB c = false := by
  have key : ∀ i : Fin 256, whtB (UInt8.ofNat i.val) = true → wrdB (UInt8.ofNat i.val) = false ∧ digB (UInt8.ofNat i.val) = false ∧ letB (UInt8.ofNat i.val) = false := by decide +kernel
  have := key ⟨c.toNat, c.toNat_lt⟩
  simp only [UInt8.ofNat_toNat] at this
  exact this h
theorem wordLen_stop {c : UInt8} (hc : whtB c = true) (r u : List UInt8) : wordLen (r ++ c :: u) = wordLen r := by
  unfold wordLen; rw [takeWhile_stop (wht_not_wrd hc).1]
theorem take_app {r u : List UInt8} {n : Nat} (h : n ≤ r.length) : (r ++ u).take n = r.take n := List.take_append_of_le_length h
theorem getD0_app {r u : List UInt8} (h : r ≠ []) : (r ++ u).getD 0 0 = r.getD 0 0 := by
  match r, h with
  | x :: r', _ => rfl
theorem drop1_app {r u : List UInt8} (h : r ≠ []) : (r ++ u).drop 1 = r.drop 1 ++ u := by
  match r, h with
  | x :: r', _ => rfl

theorem sym_white : ∀ y ∈ symL, ∀ c ∈ y, whtB c = false := by decide
theorem pre_stop {c : UInt8} (hc : whtB c = true) {y : List UInt8} (hy : y ∈ symL) (r u : List UInt8) : y.isPrefixOf (r ++ c :: u) = y.isPrefixOf r := by
  rw [Bool.eq_iff_iff, List.isPrefixOf_iff_prefix, List.isPrefixOf_iff_prefix]
  constructor
  · intro h
    by_cases hl : y.length ≤ r.length
    · exact List.prefix_of_prefix_length_le h (List.prefix_append r (c :: u)) hl
    · exfalso
      have e := List.prefix_iff_eq_take.1 h
      have hm : c ∈ y := by
        rw [e, List.mem_iff_getElem?]
        refine ⟨r.length, ?_⟩
        rw [List.getElem?_take_of_lt (by omega)]
        simp
      have := sym_white y hy c hm
      rw [hc] at this
      exact absurd this (by decide)
  · intro h
    exact h.trans (List.prefix_append r (c :: u))
theorem find_congr' {α : Type} {p q : α → Bool} : ∀ (l : List α), (∀ x ∈ l, p x = q x) → l.find? p = l.find? q
  | [], _ => rfl
  | x :: l, h => by
    rw [List.find?_cons, List.find?_cons, h x (by simp), find_congr' l fun y hy => h y (by simp [hy])]

theorem numB_stop {c : UInt8} (hc : whtB c = true) {r : List UInt8} (hr : r ≠ []) (u : List UInt8) : numB (r ++ c :: u) = numB r := by
  have hd := (wht_not_wrd hc).2.1
  match r, hr with
  | [x], _ => simp [numB, hd]
  | x :: y :: r', _ => simp [numB]

theorem strLen_ext {r u : List UInt8} {n : Nat} (hr : r ≠ []) (h : strLen r = some n) : strLen (r ++ u) = some n := by
  unfold strLen at *
  rw [drop1_app hr]
  simp only [Option.map_eq_some_iff] at *
  obtain ⟨m, hm, rfl⟩ := h
  exact ⟨m, strGo_ext _ _ _ _ hm, rfl⟩

/-- What follows behind white space is not seen. -/
theorem nextL_ext {r : List UInt8} {a : Int} {t : Tok} {c : UInt8} (hc : whtB c = true) (u : List UInt8) (hr : r ≠ []) (h : nextL r a = (t, 0)) : nextL (r ++ c :: u) a = (t, 0) := by
  unfold nextL at *
  rw [getD0_app hr, numB_stop hc hr]
  split at h
  · rename_i g
    rw [if_pos g]
    unfold wordTok at *
    rw [wordLen_stop hc, take_app (wordLen_le r)]
    exact h
  · rename_i g
    rw [if_neg g]
    split at h
    · rename_i g2
      rw [if_pos g2, drop1_app hr, wordLen_stop hc, take_app]
      · exact h
      · have := wordLen_le (r.drop 1)
        rw [List.length_drop] at this
        have := List.length_pos_iff.2 hr
        omega
    · rename_i g2
      rw [if_neg g2]
      split at h
      · rename_i g3
        rw [if_pos g3]
        split at h
        · injection h with _ h2; exact absurd h2 (by decide)
        · rename_i n hn
          rw [strLen_ext hr hn]
          simp only
          rw [take_app (strLen_le hn).2]
          exact h
      · rename_i g3
        rw [if_neg g3]
        unfold symTok at *
        rw [find_congr' symL fun y hy => pre_stop hc hy r u]
        exact h

theorem takeWhile_all {p : UInt8 → Bool} : ∀ (l : List UInt8), (l.takeWhile p).takeWhile p = l.takeWhile p
  | [] => rfl
  | x :: l => by
    by_cases h : p x = true
    · simp [h, takeWhile_all l]
    · simp [h]
theorem wordLen_self (l : List UInt8) : wordLen (l.take (wordLen l)) = wordLen l := by
  rw [wordLen_take]; unfold wordLen; rw [takeWhile_all]
theorem getD_take {l : List UInt8} {n k : Nat} (h : k < n) : (l.take n).getD k 0 = l.getD k 0 := by
  rw [List.getD_eq_getElem?_getD, List.getD_eq_getElem?_getD, List.getElem?_take_of_lt h]
theorem sym_self : ∀ y ∈ symL, letB (y.getD 0 0) = false ∧ numB y = false ∧ y.getD 0 0 ≠ 34 ∧ symL.find? (fun z => z.isPrefixOf y) = some y := by decide

/-- A token's text by itself. -/
theorem nextL_cut {r : List UInt8} {a : Int} {t : Tok} (b : Int) (hr : r ≠ []) (h : nextL r a = (t, 0)) : nextL t.t b = (⟨t.k, t.t, t.v, b⟩, 0) := by
  unfold nextL at h
  split at h
  · rename_i g
    have hw : 0 < wordLen r := by
      match r, hr with
      | c :: r', _ =>
        have : wrdB c = true := by unfold wrdB; simp at g; rw [g]; rfl
        simp [wordLen, this]
    have key : ∀ k v, t = ⟨k, r.take (wordLen r), v, a⟩ → wordTok r a = (t, 0) → nextL t.t b = (⟨t.k, t.t, t.v, b⟩, 0) := by
      rintro k v rfl hh
      unfold nextL
      simp only
      rw [getD_take hw, if_pos g]
      unfold wordTok at hh ⊢
      rw [wordLen_self, List.take_take, Nat.min_self]
      split at hh
      · rename_i g2
        rw [if_pos g2]
        injection hh with h1 _
        injection h1 with e1 _ e3 _
        subst e1 e3; rfl
      · rename_i g2
        rw [if_neg g2]
        split at hh
        · injection hh with _ h2; exact absurd h2 (by decide)
        · rename_i g3
          rw [if_neg g3]
          injection hh with h1 _
          injection h1 with e1 _ e3 _
          subst e1 e3; rfl
    have h' := h
    unfold wordTok at h
    split at h
    · injection h with h1 _
      exact key _ _ h1.symm h'
    · split at h
      · injection h with _ h2; exact absurd h2 (by decide)
      · injection h with h1 _
        exact key _ _ h1.symm h'
  · rename_i g
    have lit : ∀ k x, litTok k x a = (t, 0) → t = ⟨k, x, t.v, a⟩ ∧ litTok k x b = (⟨k, x, t.v, b⟩, 0) := by
      intro k x hh
      obtain ⟨h1, h2⟩ := litTok_ok hh
      refine ⟨h2, ?_⟩
      unfold litTok
      rw [h1, if_pos rfl]
    split at h
    · rename_i g2
      obtain ⟨e, hl⟩ := lit _ _ h
      have hx : t.t = r.take (1 + wordLen (r.drop 1)) := by rw [e]
      have hk : t.k = 2 := by rw [e]
      have hd : (r.take (1 + wordLen (r.drop 1))).drop 1 = (r.drop 1).take (wordLen (r.drop 1)) := by
        rw [List.drop_take]; congr 1; omega
      rw [hx, hk]
      unfold nextL
      rw [getD_take (by omega), if_neg g]
      have hn : numB (r.take (1 + wordLen (r.drop 1))) = true := by
        unfold numB at g2 ⊢
        rw [getD_take (by omega)]
        by_cases gd : digB (r.getD 0 0) = true
        · rw [gd]; rfl
        · simp only [Bool.not_eq_true] at gd
          rw [gd] at g2 ⊢
          simp only [Bool.false_or, Bool.and_eq_true, decide_eq_true_eq] at g2 ⊢
          obtain ⟨q1, q2, q3⟩ := g2
          have hw : 0 < wordLen (r.drop 1) := by
            match r, q2 with
            | x :: y :: r', _ =>
              have : wrdB y = true := by
                have q3' : digB y = true := q3
                unfold wrdB; rw [q3']; simp
              simp [wordLen, this]
          refine ⟨q1, ?_, ?_⟩
          · rw [List.length_take]
            have := wordLen_le (r.drop 1)
            rw [List.length_drop] at this
            omega
          · rw [getD_take (by omega)]; exact q3
      rw [if_pos hn, hd, wordLen_self, List.take_take, Nat.min_self]
      exact hl
    · rename_i g2
      split at h
      · rename_i g3
        split at h
        · injection h with _ h2; exact absurd h2 (by decide)
        · rename_i n hn
          obtain ⟨e, hl⟩ := lit _ _ h
          have hx : t.t = r.take n := by rw [e]
          have hk : t.k = 3 := by rw [e]
          have hle := strLen_le hn
          rw [hx, hk]
          unfold nextL
          rw [getD_take (by omega), if_neg g]
          have hnum : numB (r.take n) = false := by
            unfold numB
            rw [getD_take (by omega), g3]; rfl
          have hs : strLen (r.take n) = some n := by
            unfold strLen at hn ⊢
            simp only [Option.map_eq_some_iff] at hn ⊢
            obtain ⟨m, hm, rfl⟩ := hn
            refine ⟨m, ?_, rfl⟩
            rw [List.drop_take]
            have := strGo_cut _ _ _ hm
            rw [show m + 1 - 1 = m by omega]
            exact this
          rw [hnum, if_neg (by decide), if_pos g3, hs]
          simp only
          rw [List.take_take, Nat.min_self]
          exact hl
      · obtain ⟨y, hy, rfl⟩ := symTok_ok h
        have hm := List.mem_of_find?_eq_some hy
        obtain ⟨s1, s2, s3, s4⟩ := sym_self y hm
        unfold nextL
        simp only
        rw [s1, s2, if_neg (by decide), if_neg (by decide), if_neg s3]
        unfold symTok
        rw [s4]
end
end Go.Proofs.YtjhnopnppimnhaaGreatDoor
