/-
  PARTS of a claim, merged by segs.py: PsP, Lex2, Lex3.
-/
import Derived.Test.YtnbacdmlaedppaaGreatDoorQ02
namespace Go.Proofs.YtnbacdmlaedppaaGreatDoor

/-! ### PsP -/
section

/-- The token at i; behind the last one it is the last one. -/
def tkL (l : List Tok) (i : Nat) : Tok := l.getD (min i (l.length - 1)) T0
def isT (t : Tok) (s : Str) : Bool := (t.k == 4 || t.k == 5) && t.t == s
/-- not , ( ) ; | :- ans order desc count sum min max -/
def sNot : Str := [110, 111, 116]
def sComma : Str := [44]
def sOpen : Str := [40]
def sShut : Str := [41]
def sSemi : Str := [59]
def sBar : Str := [124]
def sIf : Str := [58, 45]
def sAns : Str := [97, 110, 115]
def sOrder : Str := [111, 114, 100, 101, 114]
def sDesc : Str := [100, 101, 115, 99]
def sCount : Str := [99, 111, 117, 110, 116]
def sSum : Str := [115, 117, 109]
def sMin : Str := [109, 105, 110]
def sMax : Str := [109, 97, 120]
def opsL : List Str := [[61], [33, 61], [60], [60, 61], [62], [62, 61]]
/-- The number of a comparison operator. -/
def opT (t : Tok) : Option Nat := opsL.findIdx? (fun s => isT t s)
def constT (t : Tok) : Option V := if t.k = 2 ∨ t.k = 3 then some t.v else none
def termT (t : Tok) : Option Trm := if t.k = 1 then some ⟨t.t, V0⟩ else (constT t).map fun v => ⟨[], v⟩
/-- A result with the next token's index, or the index of the first token that does not fit. -/
inductive Out (α : Type) where
  | bad (at_ : Nat) : Out α
  | ok (x : α) (next : Nat) : Out α
section
variable (tk : Nat → Tok)
def termsS : Nat → Nat → List Trm → Out (List Trm)
  | 0, i, _ => .bad i
  | f + 1, i, acc => match termT (tk i) with
    | none => .bad i
    | some t => if isT (tk (i + 1)) sShut = true then .ok (acc ++ [t]) (i + 2) else if isT (tk (i + 1)) sComma = true then termsS f (i + 2) (acc ++ [t]) else .bad (i + 1)
/-- The terms behind the opening parenthesis. -/
def parenS (f i : Nat) : Out (List Trm) := if isT (tk i) sShut = true then .ok [] (i + 1) else termsS tk f i []
def itemS (f i : Nat) (r : Rul) : Out Rul :=
  let neg := isT (tk i) sNot
  let j := if neg = true then i + 1 else i
  if (tk j).k ≠ 1 then .bad j
  else if isT (tk (j + 1)) sOpen = true then match parenS tk f (j + 2) with
    | .bad e => .bad e
    | .ok ts nx => .ok { r with atoms := r.atoms ++ [⟨neg, (tk j).t, ts⟩] } nx
  else if neg = true then .bad (j + 1)
  else match opT (tk (j + 1)) with
    | none => .bad (j + 1)
    | some o => match constT (tk (j + 2)) with
      | none => .bad (j + 2)
      | some v => .ok { r with conds := r.conds ++ [⟨(tk j).t, o, v⟩] } (j + 3)
def ruleG (n : Nat) : Nat → Nat → Rul → Out Rul
  | 0, i, _ => .bad i
  | f + 1, i, r => match itemS tk n i r with
    | .bad e => .bad e
    | .ok r' nx => if isT (tk nx) sComma = true then ruleG n f (nx + 1) r' else .ok r' nx
def namesS : Nat → Nat → List Str → Out (List Str)
  | 0, i, _ => .bad i
  | f + 1, i, acc => if (tk i).k ≠ 1 then .bad i else if isT (tk (i + 1)) sComma = true then namesS f (i + 2) (acc ++ [(tk i).t]) else .ok (acc ++ [(tk i).t]) (i + 1)
/-- The number of an aggregate that has a variable. -/
def aggT (t : Tok) : Option Int := if isT t sSum = true then some 2 else if isT t sMin = true then some 3 else if isT t sMax = true then some 4 else none
def aggG (i : Nat) (q : Qry) : Out Qry :=
  if isT (tk i) sCount = true then .ok { q with agg := 1 } (i + 1)
  else match aggT (tk i) with
    | none => .bad i
    | some a => if (tk (i + 1)).k ≠ 1 then .bad (i + 1) else .ok { q with agg := a, aggVar := (tk (i + 1)).t } (i + 2)
def endS (i : Nat) (q : Qry) : Out Qry :=
  if isT (tk i) sShut = true then (if isT (tk (i + 1)) sIf = true then .ok q (i + 2) else .bad (i + 1)) else .bad i
def semiS (i : Nat) (q : Qry) : Out Qry :=
  if isT (tk i) sSemi = true then match aggG tk (i + 1) q with
    | .bad e => .bad e
    | .ok q' nx => endS tk nx q'
  else endS tk i q
def headG (n : Nat) : Out Qry :=
  if (tk 0).k ≠ 1 ∨ (tk 0).t ≠ sAns then .bad 0
  else if isT (tk 1) sOpen = false then .bad 1
  else if (tk 2).k = 1 then match namesS tk n 2 [] with
    | .bad e => .bad e
    | .ok h nx => semiS tk nx ⟨h, 0, [], [], []⟩
  else semiS tk 2 ⟨[], 0, [], [], []⟩
def keysS : Nat → Nat → List Ky → Out (List Ky)
  | 0, i, _ => .bad i
  | f + 1, i, acc => if (tk i).k ≠ 1 then .bad i else
    let d := isT (tk (i + 1)) sDesc
    let j := if d = true then i + 2 else i + 1
    if isT (tk j) sComma = true then keysS f (j + 1) (acc ++ [⟨(tk i).t, d⟩]) else .ok (acc ++ [⟨(tk i).t, d⟩]) j
def rulesS (n : Nat) : Nat → Nat → List Rul → Out (List Rul)
  | 0, i, _ => .bad i
  | f + 1, i, acc => match ruleG tk n n i ⟨[], []⟩ with
    | .bad e => .bad e
    | .ok r nx => if isT (tk nx) sBar = true then rulesS n f (nx + 1) (acc ++ [r]) else .ok (acc ++ [r]) nx
def queryS (n : Nat) : Out Qry := match headG tk n with
  | .bad e => .bad e
  | .ok q nx => match rulesS tk n n nx [] with
    | .bad e => .bad e
    | .ok rs nx2 => if isT (tk nx2) sOrder = true then match keysS tk n (nx2 + 1) [] with
        | .bad e => .bad e
        | .ok ks nx3 => .ok { q with rules := rs, order := ks } nx3
      else .ok { q with rules := rs } nx2
/-- To the end of the text. -/
def fullS {α : Type} (o : Out α) : Out α := match o with
  | .bad e => .bad e
  | .ok x nx => if (tk nx).k = 0 then .ok x nx else .bad nx
end
def Q0 : Qry := ⟨[], 0, [], [], []⟩
def R0 : Rul := ⟨[], []⟩
/-- What the document's Parse answers: the query, an offset, an error. -/
def gramQ (l : List Tok) : Qry × Int × Int := match fullS (tkL l) (queryS (tkL l) l.length) with
  | .bad e => (Q0, (tkL l e).a, 21)
  | .ok q _ => (q, 0, 0)
def gramR (l : List Tok) : Rul × Int × Int := match fullS (tkL l) (ruleG (tkL l) l.length l.length 0 R0) with
  | .bad e => (R0, (tkL l e).a, 21)
  | .ok q _ => (q, 0, 0)
def parseQ (_s : Str) (x : List Tok × Int × Int) : Qry × Int × Int := if x.2.2 = 0 then gramQ x.1 else (Q0, x.2.1, x.2.2)
/-- Tokens that end in the end of the text. -/
structure Ended (l : List Tok) : Prop where
  pos : 0 < l.length
  last : (tkL l (l.length - 1)).k = 0
theorem Ended.out {l : List Tok} (h : Ended l) {i : Nat} (hi : l.length - 1 ≤ i) : (tkL l i).k = 0 := by
  have e : tkL l i = tkL l (l.length - 1) := by unfold tkL; rw [show min i (l.length - 1) = min (l.length - 1) (l.length - 1) by omega]
  rw [e]; exact h.last
theorem Ended.lt {l : List Tok} (h : Ended l) {i : Nat} (hk : (tkL l i).k ≠ 0) : i + 1 < l.length := by
  apply Nat.lt_of_not_le
  intro hc
  exact hk (h.out (by omega))
theorem isT_kind {t : Tok} {s : Str} (h : isT t s = true) : t.k ≠ 0 := by
  unfold isT at h
  simp only [Bool.and_eq_true, Bool.or_eq_true, beq_iff_eq] at h
  intro e
  rw [e] at h
  rcases h.1 with h | h <;> exact absurd h (by decide)
theorem Ended.isT {l : List Tok} (h : Ended l) {i : Nat} {s : Str} (hk : isT (tkL l i) s = true) : i + 1 < l.length := h.lt (isT_kind hk)
theorem Ended.one {l : List Tok} (h : Ended l) {i : Nat} (hk : (tkL l i).k = 1) : i + 1 < l.length := h.lt (by rw [hk]; decide)
theorem Ended.con {l : List Tok} (h : Ended l) {i : Nat} {v : V} (hk : constT (tkL l i) = some v) : i + 1 < l.length := by
  refine h.lt fun e => ?_
  unfold constT at hk
  rw [e] at hk
  rw [if_neg (by decide)] at hk
  cases hk
theorem Ended.term {l : List Tok} (h : Ended l) {i : Nat} {v : Trm} (hk : termT (tkL l i) = some v) : i + 1 < l.length := by
  unfold termT at hk
  split at hk
  · rename_i e; exact h.one e
  · cases hc : constT (tkL l i) with
    | none => rw [hc] at hk; cases hk
    | some v => exact h.con hc
theorem opT_kind {t : Tok} {o : Nat} (h : opT t = some o) : t.k ≠ 0 := by
  unfold opT at h
  obtain ⟨h1, h2, _⟩ := List.findIdx?_eq_some_iff_getElem.1 h
  exact isT_kind h2
end

/-! ### Lex2 -/
section

theorem takeWhile_stop {p : UInt8 → Bool} {c : UInt8} (hc : p c = false) : ∀ (r u : List UInt8), (r ++ c :: u).takeWhile p = r.takeWhile p
  | [], u => by simp [hc]
  | x :: r, u => by
    simp only [List.cons_append, List.takeWhile_cons]
    split
    · rw [takeWhile_stop hc r u]
    · rfl
theorem wht_not_wrd {c : UInt8} (h : whtB c = true) : wrdB c = false ∧ digB c = false ∧ letB c = false := by
  have key : ∀ i : Fin 256, whtB (UInt8.ofNat i.val) = true → wrdB (UInt8.ofNat i.val) = false ∧ digB (UInt8.ofNat i.val) = false ∧ letB (UInt8.ofNat i.val) = false := by decide +kernel
  have := key ⟨c.toNat, c.toNat_lt⟩
  simp only [UInt8.ofNat_toNat] at this
  exact this h
theorem wordLen_stop {c : UInt8} (hc : whtB c = true) (r u : List UInt8) : wordLen (r ++ c :: u) = wordLen r := by
  unfold wordLen; rw [takeWhile_stop (wht_not_wrd hc).1]
theorem take_app {r u : List UInt8} {n : Nat} (h : n ≤ r.length) : (r ++ u).take n = r.take n := List.take_append_of_le_length h
theorem getD0_app {r u : List UInt8} (h : r ≠ []) : (r ++ u).getD 0 0 = r.getD 0 0 := by
  match r, h with
  | x :: r', _ => rfl
theorem drop1_app {r u : List UInt8} (h : r ≠ []) : (r ++ u).drop 1 = r.drop 1 ++ u := by
  match r, h with
  | x :: r', _ => rfl

theorem sym_white : ∀ y ∈ symL, ∀ c ∈ y, whtB c = false := by decide
theorem pre_stop {c : UInt8} (hc : whtB c = true) {y : List UInt8} (hy : y ∈ symL) (r u : List UInt8) : y.isPrefixOf (r ++ c :: u) = y.isPrefixOf r := by
  rw [Bool.eq_iff_iff, List.isPrefixOf_iff_prefix, List.isPrefixOf_iff_prefix]
  constructor
  · intro h
    by_cases hl : y.length ≤ r.length
    · exact List.prefix_of_prefix_length_le h (List.prefix_append r (c :: u)) hl
    · exfalso
      have e := List.prefix_iff_eq_take.1 h
      have hm : c ∈ y := by
        rw [e, List.mem_iff_getElem?]
        refine ⟨r.length, ?_⟩
        rw [List.getElem?_take_of_lt (by omega)]
        simp
      have := sym_white y hy c hm
      rw [hc] at this
      exact absurd this (by decide)
  · intro h
    exact h.trans (List.prefix_append r (c :: u))
theorem find_congr' {α : Type} {p q : α → Bool} : ∀ (l : List α), (∀ x ∈ l, p x = q x) → l.find? p = l.find? q
  | [], _ => rfl
  | x :: l, h => by
    rw [List.find?_cons, List.find?_cons, h x (by simp), find_congr' l fun y hy => h y (by simp [hy])]

theorem numB_stop {c : UInt8} (hc : whtB c = true) {r : List UInt8} (hr : r ≠ []) (u : List UInt8) : numB (r ++ c :: u) = numB r := by
  have hd := (wht_not_wrd hc).2.1
  match r, hr with
  | [x], _ => simp [numB, hd]
  | x :: y :: r', _ => simp [numB]

theorem strLen_ext {r u : List UInt8} {n : Nat} (hr : r ≠ []) (h : strLen r = some n) : strLen (r ++ u) = some n := by
  unfold strLen at *
  rw [drop1_app hr]
  simp only [Option.map_eq_some_iff] at *
  obtain ⟨m, hm, rfl⟩ := h
  exact ⟨m, strGo_ext _ _ _ _ hm, rfl⟩

/-- What follows behind white space is not seen. -/
theorem nextL_ext {r : List UInt8} {a : Int} {t : Tok} {c : UInt8} (hc : whtB c = true) (u : List UInt8) (hr : r ≠ []) (h : nextL r a = (t, 0)) : nextL (r ++ c :: u) a = (t, 0) := by
  unfold nextL at *
  rw [getD0_app hr, numB_stop hc hr]
  split at h
  · rename_i g
    rw [if_pos g]
    unfold wordTok at *
    rw [wordLen_stop hc, take_app (wordLen_le r)]
    exact h
  · rename_i g
    rw [if_neg g]
    split at h
    · rename_i g2
      rw [if_pos g2, drop1_app hr, wordLen_stop hc, take_app]
      · exact h
      · have := wordLen_le (r.drop 1)
        rw [List.length_drop] at this
        have := List.length_pos_iff.2 hr
        omega
    · rename_i g2
      rw [if_neg g2]
      split at h
      · rename_i g3
        rw [if_pos g3]
        split at h
        · injection h with _ h2; exact absurd h2 (by decide)
        · rename_i n hn
          rw [strLen_ext hr hn]
          simp only
          rw [take_app (strLen_le hn).2]
          exact h
      · rename_i g3
        rw [if_neg g3]
        unfold symTok at *
        rw [find_congr' symL fun y hy => pre_stop hc hy r u]
        exact h

theorem takeWhile_all {p : UInt8 → Bool} : ∀ (l : List UInt8), (l.takeWhile p).takeWhile p = l.takeWhile p
  | [] => rfl
  | x :: l => by
    by_cases h : p x = true
    · simp [h, takeWhile_all l]
    · simp [h]
theorem wordLen_self (l : List UInt8) : wordLen (l.take (wordLen l)) = wordLen l := by
  rw [wordLen_take]; unfold wordLen; rw [takeWhile_all]
theorem getD_take {l : List UInt8} {n k : Nat} (h : k < n) : (l.take n).getD k 0 = l.getD k 0 := by
  rw [List.getD_eq_getElem?_getD, List.getD_eq_getElem?_getD, List.getElem?_take_of_lt h]
theorem sym_self : ∀ y ∈ symL, letB (y.getD 0 0) = false ∧ numB y = false ∧ y.getD 0 0 ≠ 34 ∧ symL.find? (fun z => z.isPrefixOf y) = some y := by decide

/-- A token's text by itself. -/
theorem nextL_cut {r : List UInt8} {a : Int} {t : Tok} (b : Int) (hr : r ≠ []) (h : nextL r a = (t, 0)) : nextL t.t b = (⟨t.k, t.t, t.v, b⟩, 0) := by
  unfold nextL at h
  split at h
  · rename_i g
    have hw : 0 < wordLen r := by
      match r, hr with
      | c :: r', _ =>
        have : wrdB c = true := by unfold wrdB; simp at g; rw [g]; rfl
        simp [wordLen, this]
    have key : ∀ k v, t = ⟨k, r.take (wordLen r), v, a⟩ → wordTok r a = (t, 0) → nextL t.t b = (⟨t.k, t.t, t.v, b⟩, 0) := by
      rintro k v rfl hh
      unfold nextL
      simp only
      rw [getD_take hw, if_pos g]
      unfold wordTok at hh ⊢
      rw [wordLen_self, List.take_take, Nat.min_self]
      split at hh
      · rename_i g2
        rw [if_pos g2]
        injection hh with h1 _
        injection h1 with e1 _ e3 _
        subst e1 e3; rfl
      · rename_i g2
        rw [if_neg g2]
        split at hh
        · injection hh with _ h2; exact absurd h2 (by decide)
        · rename_i g3
          rw [if_neg g3]
          injection hh with h1 _
          injection h1 with e1 _ e3 _
          subst e1 e3; rfl
    have h' := h
    unfold wordTok at h
    split at h
    · injection h with h1 _
      exact key _ _ h1.symm h'
    · split at h
      · injection h with _ h2; exact absurd h2 (by decide)
      · injection h with h1 _
        exact key _ _ h1.symm h'
  · rename_i g
    have lit : ∀ k x, litTok k x a = (t, 0) → t = ⟨k, x, t.v, a⟩ ∧ litTok k x b = (⟨k, x, t.v, b⟩, 0) := by
      intro k x hh
      obtain ⟨h1, h2⟩ := litTok_ok hh
      refine ⟨h2, ?_⟩
      unfold litTok
      rw [h1, if_pos rfl]
    split at h
    · rename_i g2
      obtain ⟨e, hl⟩ := lit _ _ h
      have hx : t.t = r.take (1 + wordLen (r.drop 1)) := by rw [e]
      have hk : t.k = 2 := by rw [e]
      have hd : (r.take (1 + wordLen (r.drop 1))).drop 1 = (r.drop 1).take (wordLen (r.drop 1)) := by
        rw [List.drop_take]; congr 1; omega
      rw [hx, hk]
      unfold nextL
      rw [getD_take (by omega), if_neg g]
      have hn : numB (r.take (1 + wordLen (r.drop 1))) = true := by
        unfold numB at g2 ⊢
        rw [getD_take (by omega)]
        by_cases gd : digB (r.getD 0 0) = true
        · rw [gd]; rfl
        · simp only [Bool.not_eq_true] at gd
          rw [gd] at g2 ⊢
          simp only [Bool.false_or, Bool.and_eq_true, decide_eq_true_eq] at g2 ⊢
          obtain ⟨q1, q2, q3⟩ := g2
          have hw : 0 < wordLen (r.drop 1) := by
            match r, q2 with
            | x :: y :: r', _ =>
              have : wrdB y = true := by
                have q3' : digB y = true := q3
                unfold wrdB; rw [q3']; simp
              simp [wordLen, this]
          refine ⟨q1, ?_, ?_⟩
          · rw [List.length_take]
            have := wordLen_le (r.drop 1)
            rw [List.length_drop] at this
            omega
          · rw [getD_take (by omega)]; exact q3
      rw [if_pos hn, hd, wordLen_self, List.take_take, Nat.min_self]
      exact hl
    · rename_i g2
      split at h
      · rename_i g3
        split at h
        · injection h with _ h2; exact absurd h2 (by decide)
        · rename_i n hn
          obtain ⟨e, hl⟩ := lit _ _ h
          have hx : t.t = r.take n := by rw [e]
          have hk : t.k = 3 := by rw [e]
          have hle := strLen_le hn
          rw [hx, hk]
          unfold nextL
          rw [getD_take (by omega), if_neg g]
          have hnum : numB (r.take n) = false := by
            unfold numB
            rw [getD_take (by omega), g3]; rfl
          have hs : strLen (r.take n) = some n := by
            unfold strLen at hn ⊢
            simp only [Option.map_eq_some_iff] at hn ⊢
            obtain ⟨m, hm, rfl⟩ := hn
            refine ⟨m, ?_, rfl⟩
            rw [List.drop_take]
            have := strGo_cut _ _ _ hm
            rw [show m + 1 - 1 = m by omega]
            exact this
          rw [hnum, if_neg (by decide), if_pos g3, hs]
          simp only
          rw [List.take_take, Nat.min_self]
          exact hl
      · obtain ⟨y, hy, rfl⟩ := symTok_ok h
        have hm := List.mem_of_find?_eq_some hy
        obtain ⟨s1, s2, s3, s4⟩ := sym_self y hm
        unfold nextL
        simp only
        rw [s1, s2, if_neg (by decide), if_neg (by decide), if_neg s3]
        unfold symTok
        rw [s4]
end

/-! ### Lex3 -/
section

theorem scan1_nil (a : Int) : scan1 [] a = ([⟨0, [], V0, a⟩], 0, 0) := by rw [scan1]
theorem scan1_white {c : UInt8} (h : whtB c = true) (r : List UInt8) (a : Int) : scan1 (c :: r) a = scan1 r (a + 1) := by rw [scan1, if_pos h]
theorem scan1_bad {r : List UInt8} {a : Int} (hr : r ≠ []) (hw : whtB (r.getD 0 0) = false) (h : (nextL r a).2 ≠ 0) : scan1 r a = ([], a, (nextL r a).2) := by
  match r, hr with
  | c :: r', _ =>
    have hw' : whtB c = false := hw
    rw [scan1, if_neg (by rw [hw']; decide), if_pos h]
theorem scan1_tok {r : List UInt8} {a : Int} {t : Tok} (hr : r ≠ []) (hw : whtB (r.getD 0 0) = false) (h : nextL r a = (t, 0)) :
    scan1 r a = if (scan1 (r.drop t.t.length) (a + t.t.length)).2.2 = 0 then (t :: (scan1 (r.drop t.t.length) (a + t.t.length)).1, 0, 0) else scan1 (r.drop t.t.length) (a + t.t.length) := by
  have hne : t.t ≠ [] := (nextL_ok hr h).2.1
  have hlen : t.t.length ≠ 0 := fun e => hne (List.eq_nil_of_length_eq_zero e)
  match r, hr with
  | c :: r', _ =>
    have hw' : whtB c = false := hw
    rw [scan1, if_neg (by rw [hw']; decide), h, if_neg (by simp), if_neg hlen]

/-- A scan that succeeds. -/
inductive Sc : List UInt8 → Int → List Tok → Prop
  | nil (a : Int) : Sc [] a [⟨0, [], V0, a⟩]
  | white {c : UInt8} {r : List UInt8} {a : Int} {ts : List Tok} (h : whtB c = true) (hs : Sc r (a + 1) ts) : Sc (c :: r) a ts
  | tok {r : List UInt8} {a : Int} {t : Tok} {ts : List Tok} (hr : r ≠ []) (hw : whtB (r.getD 0 0) = false) (h : nextL r a = (t, 0)) (hs : Sc (r.drop t.t.length) (a + t.t.length) ts) : Sc r a (t :: ts)

theorem Sc.ne {l : List UInt8} {a : Int} {ts : List Tok} (h : Sc l a ts) : ts ≠ [] := by
  induction h with
  | nil a => simp
  | white h hs ih => exact ih
  | tok => simp

theorem sc_scan {l : List UInt8} {a : Int} {ts : List Tok} (h : Sc l a ts) : scan1 l a = (ts, 0, 0) := by
  induction h with
  | nil a => exact scan1_nil a
  | white h hs ih => rw [scan1_white h, ih]
  | tok hr hw h hs ih => rw [scan1_tok hr hw h, ih, if_pos rfl]

theorem scan_sc : ∀ (n : Nat) (l : List UInt8) (a : Int), l.length ≤ n → ((scan1 l a).2.2 = 0 → Sc l a (scan1 l a).1 ∧ (scan1 l a).2.1 = 0) ∧ ((scan1 l a).2.2 ≠ 0 → (scan1 l a).1 = [])
  | n, [], a, _ => by rw [scan1_nil]; exact ⟨fun _ => ⟨Sc.nil a, rfl⟩, fun h => absurd rfl h⟩
  | 0, c :: r, a, h => by simp at h
  | n + 1, c :: r, a, hl => by
    by_cases hw : whtB c = true
    · rw [scan1_white hw]
      obtain ⟨h1, h2⟩ := scan_sc n r (a + 1) (by simpa using hl)
      exact ⟨fun h => ⟨Sc.white hw (h1 h).1, (h1 h).2⟩, h2⟩
    · have hw' : whtB ((c :: r).getD 0 0) = false := by simpa using hw
      obtain ⟨⟨t, e⟩, hn⟩ : ∃ p, nextL (c :: r) a = p := ⟨_, rfl⟩
      by_cases he : e = 0
      · subst he
        rw [scan1_tok (by simp) hw' hn]
        have hp := (nextL_ok (by simp) hn).2.1
        obtain ⟨h1, h2⟩ := scan_sc n ((c :: r).drop t.t.length) (a + t.t.length) (by
          have := List.length_pos_iff.2 hp
          rw [List.length_drop]; omega)
        by_cases h0 : (scan1 ((c :: r).drop t.t.length) (a + t.t.length)).2.2 = 0
        · rw [if_pos h0]
          exact ⟨fun _ => ⟨Sc.tok (by simp) hw' hn (h1 h0).1, rfl⟩, fun h => absurd rfl h⟩
        · rw [if_neg h0]
          exact ⟨fun h => absurd h h0, h2⟩
      · rw [scan1_bad (by simp) hw' (by rw [hn]; exact he), hn]
        exact ⟨fun h => absurd h he, fun _ => rfl⟩

theorem scan_ok {l : List UInt8} {a : Int} {ts : List Tok} {q : Int} (h : scan1 l a = (ts, q, 0)) : Sc l a ts ∧ q = 0 := by
  have := (scan_sc l.length l a (Nat.le_refl _)).1 (by rw [h])
  rw [h] at this
  exact this
theorem scan_err {l : List UInt8} {a : Int} {ts : List Tok} {q e : Int} (h : scan1 l a = (ts, q, e)) (he : e ≠ 0) : ts = [] := by
  have := (scan_sc l.length l a (Nat.le_refl _)).2 (by rw [h]; exact he)
  rw [h] at this
  exact this

/-- A token d further on. -/
def Tok.sh (d : Int) (t : Tok) : Tok := ⟨t.k, t.t, t.v, t.a + d⟩
theorem nextL_at {r : List UInt8} {a : Int} {t : Tok} (_hr : r ≠ []) (h : nextL r a = (t, 0)) (b : Int) : nextL r b = (⟨t.k, t.t, t.v, b⟩, 0) := by
  have lit : ∀ k x, litTok k x a = (t, 0) → litTok k x b = (⟨t.k, t.t, t.v, b⟩, 0) := by
    intro k x hh
    obtain ⟨h1, h2⟩ := litTok_ok hh
    unfold litTok
    rw [h1, if_pos rfl]
    have e1 : t.k = k := by rw [h2]
    have e2 : t.t = x := by rw [h2]
    rw [e1, e2]
  unfold nextL at h ⊢
  split at h
  · rename_i g
    rw [if_pos g]
    unfold wordTok at h ⊢
    split at h
    · rename_i g2
      rw [if_pos g2]
      injection h with h1 _
      subst h1; rfl
    · rename_i g2
      rw [if_neg g2]
      split at h
      · injection h with _ h2; exact absurd h2 (by decide)
      · rename_i g3
        rw [if_neg g3]
        injection h with h1 _
        subst h1; rfl
  · rename_i g
    rw [if_neg g]
    split at h
    · rename_i g2
      rw [if_pos g2]
      exact lit _ _ h
    · rename_i g2
      rw [if_neg g2]
      split at h
      · rename_i g3
        rw [if_pos g3]
        split at h
        · injection h with _ h2; exact absurd h2 (by decide)
        · rename_i n hn
          exact lit _ _ h
      · rename_i g3
        rw [if_neg g3]
        obtain ⟨y, hy, rfl⟩ := symTok_ok h
        unfold symTok
        rw [hy]

theorem Sc.shift {l : List UInt8} {a : Int} {ts : List Tok} (h : Sc l a ts) (d : Int) : Sc l (a + d) (ts.map (Tok.sh d)) := by
  induction h with
  | nil a => exact Sc.nil (a + d)
  | white h hs ih => exact Sc.white h (by rw [show ∀ x : Int, x + d + 1 = x + 1 + d from fun x => by omega]; exact ih)
  | @tok r a t ts hr hw h hs ih =>
    have ha := (nextL_ok hr h).2.2.1
    have e : Tok.sh d t = ⟨t.k, t.t, t.v, a + d⟩ := by unfold Tok.sh; rw [ha]
    rw [List.map_cons, e]
    refine Sc.tok hr hw (nextL_at hr h (a + d)) ?_
    simp only
    rw [show a + d + (t.t.length : Int) = a + t.t.length + d by omega]
    exact ih

/-- Two texts with white space between them. -/
theorem Sc.join {s u : List UInt8} {a : Int} {ts us : List Tok} {c : UInt8} (hc : whtB c = true) (h : Sc s a ts) : Sc u (a + s.length + 1) us → Sc (s ++ c :: u) a (ts.dropLast ++ us) := by
  induction h with
  | nil a => intro hu; exact Sc.white hc (by simpa using hu)
  | @white c' r a ts h hs ih =>
    intro hu
    refine Sc.white h (ih ?_)
    simp only [List.length_cons] at hu
    rw [show a + 1 + (r.length : Int) + 1 = a + ((r.length + 1 : Nat) : Int) + 1 by omega]
    exact hu
  | @tok r a t ts hr hw h hs ih =>
    intro hu
    obtain ⟨hp, hne, _⟩ := nextL_ok hr h
    have hle := hp.length_le
    rw [List.dropLast_cons_of_ne_nil hs.ne, List.cons_append]
    refine Sc.tok (by simp) (by rw [getD0_app hr]; exact hw) (nextL_ext hc u hr h) ?_
    rw [List.drop_append_of_le_length hle]
    refine ih ?_
    rw [List.length_drop]
    rw [show a + (t.t.length : Int) + ((r.length - t.t.length : Nat) : Int) + 1 = a + r.length + 1 by omega]
    exact hu

/-- The texts of tokens, each with white space behind it. -/
def joinT : List Tok → List (List UInt8) → List UInt8
  | [], _ => []
  | t :: ts, [] => t.t ++ 32 :: joinT ts []
  | t :: ts, g :: gs => t.t ++ (g ++ joinT ts gs)
def gapOk (g : List UInt8) : Prop := g ≠ [] ∧ ∀ c ∈ g, whtB c = true

theorem sc_whites : ∀ (g : List UInt8) (r : List UInt8) (a : Int) (ts : List Tok), (∀ c ∈ g, whtB c = true) → Sc r (a + g.length) ts → Sc (g ++ r) a ts
  | [], r, a, ts, _, h => by simpa using h
  | c :: g, r, a, ts, hg, h => by
    refine Sc.white (hg c (by simp)) (sc_whites g r (a + 1) ts (fun x hx => hg x (by simp [hx])) ?_)
    rw [show a + 1 + (g.length : Int) = a + ((c :: g).length : Int) by simp; omega]
    exact h

/-- Alike but for the offset. -/
def Tok.bare (t : Tok) : Int × List UInt8 × V := (t.k, t.t, t.v)

theorem sc_head_ne {r : List UInt8} {a : Int} {t : Tok} (hr : r ≠ []) (hw : whtB (r.getD 0 0) = false) (h : nextL r a = (t, 0)) : t.t ≠ [] ∧ whtB (t.t.getD 0 0) = false := by
  obtain ⟨hp, hne, _⟩ := nextL_ok hr h
  refine ⟨hne, ?_⟩
  rw [List.prefix_iff_eq_take.1 hp, getD_take (List.length_pos_iff.2 hne)]
  exact hw

theorem Sc.back {l : List UInt8} {a : Int} {ts : List Tok} (h : Sc l a ts) : ∀ (gs : List (List UInt8)) (b : Int), (∀ g ∈ gs, gapOk g) → ∃ us, Sc (joinT ts gs) b us ∧ us.map Tok.bare = ts.map Tok.bare := by
  induction h with
  | nil a =>
    intro gs b hg
    refine ⟨[⟨0, [], V0, b + (joinT [⟨0, [], V0, a⟩] gs).length⟩], ?_, rfl⟩
    match gs with
    | [] => exact Sc.white (by decide) (by simpa [joinT] using Sc.nil (b + 1))
    | g :: gs =>
      have e : joinT [⟨0, [], V0, a⟩] (g :: gs) = g ++ [] := by simp [joinT]
      rw [e]
      refine sc_whites g [] b _ (hg g (by simp)).2 ?_
      rw [List.append_nil]
      exact Sc.nil _
  | white h hs ih => exact ih
  | @tok r a t ts hr hw h hs ih =>
    intro gs b hg
    obtain ⟨hne, hw0⟩ := sc_head_ne hr hw h
    have hcut := nextL_cut b hr h
    match gs with
    | [] =>
      obtain ⟨us, h1, h2⟩ := ih [] (b + t.t.length + 1) (by simp)
      refine ⟨⟨t.k, t.t, t.v, b⟩ :: us, ?_, by rw [List.map_cons, List.map_cons, h2]; rfl⟩
      refine Sc.tok (by simp [joinT, hne]) (by rw [joinT, getD0_app hne]; exact hw0) (nextL_ext (by decide) _ hne hcut) ?_
      simp only
      rw [joinT, List.drop_left]
      exact Sc.white (by decide) h1
    | g :: gs =>
      obtain ⟨hg0, hg1⟩ := hg g (by simp)
      obtain ⟨us, h1, h2⟩ := ih gs (b + t.t.length + g.length) (fun x hx => hg x (by simp [hx]))
      refine ⟨⟨t.k, t.t, t.v, b⟩ :: us, ?_, by rw [List.map_cons, List.map_cons, h2]; rfl⟩
      have he : nextL (joinT (t :: ts) (g :: gs)) b = (⟨t.k, t.t, t.v, b⟩, 0) := by
        match g, hg0, hg1 with
        | c :: g', _, hg1 => exact nextL_ext (hg1 c (by simp)) _ hne hcut
      refine Sc.tok (by simp [joinT, hne]) (by rw [joinT, getD0_app hne]; exact hw0) he ?_
      simp only
      rw [joinT, List.drop_left]
      exact sc_whites g _ _ _ hg1 h1

/-- The tokens cover the text s from the offset e on. -/
def Cov (s : List UInt8) : Nat → List Tok → Prop
  | e, [] => e = s.length
  | e, t :: ts => ∃ p : Nat, t.a = p ∧ e ≤ p ∧ p + t.t.length ≤ s.length ∧ (s.drop p).take t.t.length = t.t ∧ (∀ c ∈ (s.drop e).take (p - e), whtB c = true) ∧ (t.k = 0 ↔ ts = []) ∧ (t.t = [] ↔ t.k = 0)
      ∧ ((t.k = 2 ∨ t.k = 3) ∧ parseL t.t = (t.v, 0) ∨ ¬ (t.k = 2 ∨ t.k = 3) ∧ t.v = V0) ∧ Cov s (p + t.t.length) ts

theorem take_more {s : List UInt8} {e p : Nat} {c : UInt8} {r : List UInt8} (he : e ≤ p) (hl : c :: r = s.drop p) : (s.drop e).take (p + 1 - e) = (s.drop e).take (p - e) ++ [c] := by
  have hp : p < s.length := by
    have := congrArg List.length hl
    simp at this; omega
  rw [show p + 1 - e = (p - e) + 1 by omega, List.take_succ_eq_append_getElem (by rw [List.length_drop]; omega)]
  congr 1
  have : (s.drop e)[p - e]'(by rw [List.length_drop]; omega) = s[p] := by
    rw [List.getElem_drop]; congr 1; omega
  rw [this]
  have h0 : (c :: r)[0]? = (s.drop p)[0]? := by rw [hl]
  rw [List.getElem?_drop] at h0
  simp only [List.getElem?_cons_zero, Nat.add_zero, List.getElem?_eq_getElem hp, Option.some.injEq] at h0
  rw [h0]

theorem Sc.covers {s l : List UInt8} {a : Int} {ts : List Tok} (h : Sc l a ts) : ∀ (p e : Nat), a = p → l = s.drop p → p ≤ s.length → e ≤ p → (∀ c ∈ (s.drop e).take (p - e), whtB c = true) → Cov s e ts := by
  induction h with
  | nil a =>
    rintro p e rfl hl hp he hw
    have hps : p = s.length := by
      have := congrArg List.length hl
      simp at this; omega
    exact ⟨p, rfl, he, by simpa using hp, by simp, hw, by simp, by simp, .inr ⟨by simp, rfl⟩, by simpa [Cov] using hps⟩
  | @white c r a ts h hs ih =>
    rintro p e rfl hl hp he hw
    have hlt : p < s.length := by
      have := congrArg List.length hl
      simp at this; omega
    refine ih (p + 1) e (by omega) ?_ (by omega) (by omega) ?_
    · rw [← List.drop_drop, ← hl]; rfl
    · rw [take_more he hl]
      intro x hx
      rcases List.mem_append.1 hx with hx | hx
      · exact hw x hx
      · obtain rfl : x = c := by simpa using hx
        exact h
  | @tok r a t ts hr hw0 h hs ih =>
    rintro p e rfl hl hp he hw
    obtain ⟨hpre, hne, ha, hk⟩ := nextL_ok hr h
    have hle := hpre.length_le
    have hlen : r.length = s.length - p := by rw [hl, List.length_drop]
    have hkn : t.k ≠ 0 := by rcases hk with ⟨h | h, _⟩ | ⟨h | h | h, _⟩ <;> omega
    refine ⟨p, ha, he, by omega, ?_, hw, ⟨fun h => absurd h hkn, fun h => absurd h hs.ne⟩, ⟨fun h => absurd h hne, fun h => absurd h hkn⟩, ?_, ?_⟩
    · rw [← hl]; exact (List.prefix_iff_eq_take.1 hpre).symm
    · rcases hk with h | ⟨h, h'⟩
      · exact .inl h
      · exact .inr ⟨by omega, h'⟩
    · refine ih (p + t.t.length) (p + t.t.length) (by omega) ?_ (by omega) (Nat.le_refl _) (by simp)
      rw [hl, List.drop_drop]

/-- White space, tokens: what the scan of a text begins with. -/
theorem Sc.head {l : List UInt8} {a : Int} {ts : List Tok} (h : Sc l a ts) : ts.length ≤ l.length + 1 := by
  induction h with
  | nil a => simp
  | white h hs ih => simp only [List.length_cons]; omega
  | @tok r a t ts hr hw h hs ih =>
    obtain ⟨hp, hne, _⟩ := nextL_ok hr h
    have h1 := hp.length_le
    have h2 := List.length_pos_iff.2 hne
    rw [List.length_drop] at ih
    simp only [List.length_cons]; omega
end
end Go.Proofs.YtnbacdmlaedppaaGreatDoor
