/-
  PLAIN: the types of a query: what check.Check infers. Imports nothing of the program.
-/
import Derived.Test.YtgeapgbebbapmaaAst3
namespace Go.Proofs.Ytgeapgbebbapmaa

structure Sch where
  name : Str
  kinds : List Int
abbrev Env := List (Str × Int)
/-- The kind of a name, if it is known. -/
def getE (E : Env) (v : Str) : Option Int := (E.find? fun p => p.1 == v).map (·.2)
/-- .. or nought. -/
def kindE (E : Env) (v : Str) : Int := (getE E v).getD 0
def findS (S : List Sch) (n : Str) : Option Sch := S.find? fun s => s.name == n

/-- One term against the kind of its column. -/
def termT (E : Env) (t : Trm) (k : Int) : Option Env :=
  if t.v = [] then (if t.c.k = k then some E else none)
  else match getE E t.v with
    | some q => if q = k then some E else none
    | none => some (E ++ [(t.v, k)])
def termsT (E : Env) : List Trm → List Int → Option Env
  | t :: ts, k :: ks => (termT E t k).bind fun E' => termsT E' ts ks
  | _, _ => some E
/-- One atom: the error, or the kinds known behind it. -/
def atomT (S : List Sch) (E : Env) (a : Atm) : Int × Env :=
  match findS S a.rel with
  | none => (7, [])
  | some s => if a.ts.length ≠ s.kinds.length then (6, []) else
    match termsT E a.ts s.kinds with
    | some E' => (0, E')
    | none => (5, [])
def inferT (S : List Sch) : Env → List Atm → Int × Env
  | E, [] => (0, E)
  | E, a :: l => if (atomT S E a).1 = 0 then inferT S (atomT S E a).2 l else ((atomT S E a).1, [])

/-- May b guard a? -/
def guardsB (a b : Atm) : Bool := !b.neg && a.ts.all fun t => t.v == [] || b.ts.any fun u => u.v == t.v
def guardG (l : List Atm) (a : Atm) : Option Nat := l.findIdx? (guardsB a)
def negE (l : List Atm) (a : Atm) : Int := if a.neg = true ∧ guardG l a = none then 23 else 0
def condT (E : Env) (c : Cnd) : Int := if c.c.k = kindE E c.v then 0 else 5
def verifyT (r : Rul) (E : Env) : Int := if firstE (condT E) r.conds = 0 then firstE (negE r.atoms) r.atoms else firstE (condT E) r.conds

/-- All rules: the error, or what each one's names are. -/
def inferAll (S : List Sch) : List Rul → Int × List Env
  | [] => (0, [])
  | r :: l => if (inferT S [] r.atoms).1 = 0 then (if (inferAll S l).1 = 0 then (0, (inferT S [] r.atoms).2 :: (inferAll S l).2) else ((inferAll S l).1, [])) else ((inferT S [] r.atoms).1, [])
def verifyAll : List Rul → List Env → Int
  | r :: l, E :: Es => if verifyT r E = 0 then verifyAll l Es else verifyT r E
  | _, _ => 0
structure Typ where
  head : List Int
  rules : List Env
def headT (q : Qry) (Es : List Env) : Bool := Es.all fun E => q.head.all fun v => kindE E v == kindE (Es.headD []) v
def typesOf (q : Qry) (Es : List Env) : Typ := ⟨q.head.map (kindE (Es.headD [])), (q.rules.zip Es).map fun p => (varsL p.1).map fun v => (v, kindE p.2 v)⟩
def checkT (q : Qry) (S : List Sch) : Int × Typ :=
  if checkQ q ≠ 0 then (checkQ q, ⟨[], []⟩)
  else if (inferAll S q.rules).1 ≠ 0 then ((inferAll S q.rules).1, ⟨[], []⟩)
  else if verifyAll q.rules (inferAll S q.rules).2 ≠ 0 then (verifyAll q.rules (inferAll S q.rules).2, ⟨[], []⟩)
  else if headT q (inferAll S q.rules).2 = false then (5, ⟨[], []⟩)
  else if q.agg = 2 ∧ kindE ((inferAll S q.rules).2.headD []) q.aggVar ≠ 1 then (5, ⟨[], []⟩)
  else (0, typesOf q (inferAll S q.rules).2)

theorem inferT_end {S : List Sch} {E : Env} {l : List Atm} {k : Nat} (h : ¬ k < l.length) : inferT S E (l.drop k) = (0, E) := by
  rw [List.drop_eq_nil_of_le (by omega)]; rfl
theorem inferT_on {S : List Sch} {E E' : Env} {l : List Atm} {k : Nat} (h : k < l.length) (h0 : atomT S E l[k] = (0, E')) : inferT S E (l.drop k) = inferT S E' (l.drop (k + 1)) := by
  rw [List.drop_eq_getElem_cons h, inferT, h0, if_pos rfl]
theorem inferT_at {S : List Sch} {E E' : Env} {l : List Atm} {k : Nat} {e : Int} (h : k < l.length) (h0 : atomT S E l[k] = (e, E')) (he : e ≠ 0) : inferT S E (l.drop k) = (e, []) := by
  rw [List.drop_eq_getElem_cons h, inferT, h0, if_neg he]
theorem atomT_none {S : List Sch} {E : Env} {a : Atm} (h : findS S a.rel = none) : atomT S E a = (7, []) := by unfold atomT; rw [h]
theorem atomT_len {S : List Sch} {E : Env} {a : Atm} {s : Sch} (h : findS S a.rel = some s) (h2 : a.ts.length ≠ s.kinds.length) : atomT S E a = (6, []) := by unfold atomT; rw [h]; simp only; rw [if_pos h2]
theorem atomT_ok {S : List Sch} {E E' : Env} {a : Atm} {s : Sch} (h : findS S a.rel = some s) (h2 : a.ts.length = s.kinds.length) (h3 : termsT E a.ts s.kinds = some E') : atomT S E a = (0, E') := by
  unfold atomT; rw [h]; simp only; rw [if_neg (by simpa using h2), h3]
theorem atomT_bad {S : List Sch} {E : Env} {a : Atm} {s : Sch} (h : findS S a.rel = some s) (h2 : a.ts.length = s.kinds.length) (h3 : termsT E a.ts s.kinds = none) : atomT S E a = (5, []) := by
  unfold atomT; rw [h]; simp only; rw [if_neg (by simpa using h2), h3]
theorem termsT_end {E : Env} {ts : List Trm} {ks : List Int} {j : Nat} (h : ¬ j < ts.length) : termsT E (ts.drop j) (ks.drop j) = some E := by
  rw [List.drop_eq_nil_of_le (by omega)]; cases ks.drop j <;> rfl
theorem termsT_on {E E' : Env} {ts : List Trm} {ks : List Int} {j : Nat} (h : j < ts.length) (h' : j < ks.length) (h0 : termT E ts[j] ks[j] = some E') : termsT E (ts.drop j) (ks.drop j) = termsT E' (ts.drop (j + 1)) (ks.drop (j + 1)) := by
  rw [List.drop_eq_getElem_cons h, List.drop_eq_getElem_cons h', termsT, h0]; rfl
theorem termsT_bad {E : Env} {ts : List Trm} {ks : List Int} {j : Nat} (h : j < ts.length) (h' : j < ks.length) (h0 : termT E ts[j] ks[j] = none) : termsT E (ts.drop j) (ks.drop j) = none := by
  rw [List.drop_eq_getElem_cons h, List.drop_eq_getElem_cons h', termsT, h0]; rfl
/-- The ways of a term. -/
theorem termT_ways (E : Env) (t : Trm) (k : Int) : (t.v = [] ∧ t.c.k = k ∧ termT E t k = some E) ∨ (t.v = [] ∧ t.c.k ≠ k ∧ termT E t k = none) ∨
    (t.v ≠ [] ∧ getE E t.v = some k ∧ termT E t k = some E) ∨ (∃ q, t.v ≠ [] ∧ getE E t.v = some q ∧ q ≠ k ∧ termT E t k = none) ∨ (t.v ≠ [] ∧ getE E t.v = none ∧ termT E t k = some (E ++ [(t.v, k)])) := by
  unfold termT
  by_cases h : t.v = []
  · by_cases h2 : t.c.k = k
    · left; exact ⟨h, h2, by rw [if_pos h, if_pos h2]⟩
    · right; left; exact ⟨h, h2, by rw [if_pos h, if_neg h2]⟩
  · rw [if_neg h]
    cases hg : getE E t.v with
    | none => right; right; right; right; exact ⟨h, rfl, rfl⟩
    | some q =>
      by_cases hq : q = k
      · right; right; left; subst hq; exact ⟨h, rfl, by simp⟩
      · right; right; right; left; exact ⟨q, h, rfl, hq, by simp [hq]⟩
theorem getE_put {E : Env} {v : Str} {k : Int} (h : getE E v = none) (x : Str) : getE (E ++ [(v, k)]) x = if x = v then some k else getE E x := by
  unfold getE at *
  rw [List.find?_append]
  by_cases hx : x = v
  · subst hx
    rw [if_pos rfl]
    cases hf : E.find? fun p => p.1 == x with
    | none => simp
    | some p => rw [hf] at h; cases h
  · rw [if_neg hx]
    cases hf : E.find? fun p => p.1 == x with
    | none =>
      have : (v == x) = false := by simpa using fun e => hx e.symm
      simp [this]
    | some p => simp
theorem findS_on {S : List Sch} {n : Str} {k : Nat} (h : k < S.length) (h0 : S[k].name ≠ n) : findS (S.drop k) n = findS (S.drop (k + 1)) n := by
  unfold findS
  rw [List.drop_eq_getElem_cons h, List.find?_cons]
  have : (S[k].name == n) = false := by simpa using h0
  rw [this]
theorem findS_at {S : List Sch} {n : Str} {k : Nat} (h : k < S.length) (h0 : S[k].name = n) : findS (S.drop k) n = some S[k] := by
  unfold findS
  rw [List.drop_eq_getElem_cons h, List.find?_cons]
  have : (S[k].name == n) = true := by simpa using h0
  rw [this]
theorem findS_end {S : List Sch} {n : Str} {k : Nat} (h : ¬ k < S.length) : findS (S.drop k) n = none := by
  rw [List.drop_eq_nil_of_le (by omega)]; rfl
end Go.Proofs.Ytgeapgbebbapmaa
