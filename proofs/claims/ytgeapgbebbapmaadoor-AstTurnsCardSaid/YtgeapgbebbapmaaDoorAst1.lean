/-
  PLAIN: queries, and what their check says. Imports nothing of the program.
-/
import Derived.Test.YtgeapgbebbapmaaDoorLit2
namespace Go.Proofs.YtgeapgbebbapmaaDoor

abbrev Str := List UInt8
structure Trm where
  v : Str
  c : V
structure Atm where
  neg : Bool
  rel : Str
  ts : List Trm
structure Cnd where
  v : Str
  op : Int
  c : V
structure Rul where
  atoms : List Atm
  conds : List Cnd
structure Ky where
  v : Str
  desc : Bool
structure Qry where
  head : List Str
  agg : Int
  aggVar : Str
  rules : List Rul
  order : List Ky

def letQ (c : UInt8) : Bool := (decide (97 ≤ c.toNat) && decide (c.toNat ≤ 122)) || (decide (65 ≤ c.toNat) && decide (c.toNat ≤ 90))
def wrdQ (c : UInt8) : Bool := letQ c || c == 95 || (decide (48 ≤ c.toNat) && decide (c.toNat ≤ 57))
/-- count, desc, max, min, not, order, sum -/
def keyQ : List Str := [[99, 111, 117, 110, 116], [100, 101, 115, 99], [109, 97, 120], [109, 105, 110], [110, 111, 116], [111, 114, 100, 101, 114], [115, 117, 109]]
/-- A name of the catalog. -/
def catB (l : Str) : Bool := decide (0 < l.length) && (decide (l.length ≤ 16) && (letQ (l.getD 0 0) && (l.drop 1).all wrdQ))
/-- A name in a query. -/
def nameB (l : Str) : Bool := !keyQ.contains l && catB l

/-- The first error of a list. -/
def firstE {α : Type} (f : α → Int) : List α → Int
  | [] => 0
  | x :: l => if f x = 0 then firstE f l else f x
theorem firstE_zero {α : Type} {f : α → Int} : ∀ {l : List α}, firstE f l = 0 → ∀ x ∈ l, f x = 0
  | [], _, x, h => absurd h (by simp)
  | y :: l, h, x, hx => by
    rw [firstE] at h
    split at h
    · rename_i h0
      rcases List.mem_cons.1 hx with rfl | hx
      · exact h0
      · exact firstE_zero h x hx
    · rename_i h0
      exact absurd h h0

def termE (t : Trm) : Int := if t.v = [] then (if t.c.valid = true then 0 else 4) else if nameB t.v = false then 7 else if t.c.k = 0 ∧ t.c.n = 0 ∧ t.c.s.size = 0 then 0 else 1
def atomE (a : Atm) : Int := if nameB a.rel = false then 7 else if 6 < a.ts.length then 12 else firstE termE a.ts
def condE (c : Cnd) : Int := if nameB c.v = false then 7 else if c.op < 0 ∨ 5 < c.op then 2 else if c.c.valid = true then 0 else 4
def itemsE (r : Rul) : Int := if r.atoms = [] then 10 else if 8 < r.atoms.length ∨ 8 < r.conds.length then 12 else if firstE atomE r.atoms = 0 then firstE condE r.conds else firstE atomE r.atoms

/-- Names in the order of their first occurrences. -/
def addN (acc : List Str) (v : Str) : List Str := if v = [] ∨ v ∈ acc then acc else acc ++ [v]
def atomVs (a : Atm) : List Str := a.ts.map (·.v)
def allVs (r : Rul) : List Str := r.atoms.flatMap atomVs ++ r.conds.map (·.v)
def varsL (r : Rul) : List Str := (allVs r).foldl addN []
/-- Does a positive atom bind the variable? -/
def boundB (r : Rul) (v : Str) : Bool := r.atoms.any fun a => !a.neg && a.ts.any fun t => t.v == v
def needL (q : Qry) : List Str := q.head ++ (if q.aggVar = [] then [] else [q.aggVar])
def ruleE (q : Qry) (r : Rul) : Int := if itemsE r = 0 then (if 8 < (varsL r).length then 12 else if ((needL q ++ varsL r).all (boundB r)) = true then 0 else 22) else itemsE r

def headGo : List Str → List Str → Int
  | _, [] => 0
  | pre, v :: l => if nameB v = false then 7 else if v ∈ pre then 8 else headGo (pre ++ [v]) l
def headE (h : List Str) : Int := if 6 < h.length then 12 else headGo [] h
def aggE (q : Qry) : Int := if q.agg = 0 ∨ q.agg = 1 then (if q.aggVar = [] then 0 else 1) else if q.agg = 2 ∨ q.agg = 3 ∨ q.agg = 4 then (if nameB q.aggVar = true then 0 else 7) else 2
def orderGo (head : List Str) : List Str → List Ky → Int
  | _, [] => 0
  | pre, k :: l => if k.v ∈ head then (if k.v ∈ pre then 8 else orderGo head (pre ++ [k.v]) l) else 7
def orderE (q : Qry) : Int := orderGo q.head [] q.order
def checkQ (q : Qry) : Int :=
  if q.rules = [] then 10
  else if 3 < q.rules.length ∨ (1 < q.rules.length ∧ q.agg ≠ 0) then 12
  else if headE q.head ≠ 0 then headE q.head
  else if aggE q ≠ 0 then aggE q
  else if firstE (ruleE q) q.rules ≠ 0 then firstE (ruleE q) q.rules
  else orderE q

theorem nameB_ne {l : Str} (h : nameB l = true) : l ≠ [] := by
  rintro rfl
  revert h; decide
theorem termE_var {t : Trm} (h : termE t = 0) (hv : t.v ≠ []) : nameB t.v = true := by
  unfold termE at h
  rw [if_neg hv] at h
  split at h
  · exact absurd h (by decide)
  · rename_i g; simpa using g
theorem condE_var {c : Cnd} (h : condE c = 0) : nameB c.v = true := by
  unfold condE at h
  split at h
  · exact absurd h (by decide)
  · rename_i g; simpa using g
end Go.Proofs.YtgeapgbebbapmaaDoor
