/-
  PLAIN: the text form of a query, as ast.Print writes it, piece by piece.
-/
import Derived.Test.YtgeapgbebbapmaaDoorAst1
import Derived.Test.YtgeapgbebbapmaaDoorLit
namespace Go.Proofs.YtgeapgbebbapmaaDoor

def opS (o : Int) : Str := if o = 0 then [61] else if o = 1 then [33, 61] else if o = 2 then [60] else if o = 3 then [60, 61] else if o = 4 then [62] else [62, 61]
/-- ", " and " | ". -/
def comS : Str := [44, 32]
def barS : Str := [32, 124, 32]
def joinS (by' : Str) : List Str → Str
  | [] => []
  | x :: l => x ++ l.flatMap fun y => by' ++ y
theorem joinS_snoc (by' : Str) (l : List Str) (y : Str) : joinS by' (l ++ [y]) = joinS by' l ++ (if l = [] then y else by' ++ y) := by
  cases l with
  | nil => simp [joinS]
  | cons x l => simp [joinS, List.flatMap_append]
def termS (t : Trm) : Str := if t.v = [] then textL t.c else t.v
def atomS (a : Atm) : Str := (if a.neg = true then [110, 111, 116, 32] else []) ++ (a.rel ++ [40]) ++ joinS comS (a.ts.map termS) ++ [41]
def condS (c : Cnd) : Str := comS ++ c.v ++ [32] ++ opS c.op ++ [32] ++ textL c.c
def ruleS (r : Rul) : Str := joinS comS (r.atoms.map atomS) ++ r.conds.flatMap condS
def aggS (q : Qry) : Str := if q.agg = 1 then [59, 32, 99, 111, 117, 110, 116] else if q.agg = 2 then [59, 32, 115, 117, 109, 32] ++ q.aggVar else if q.agg = 3 then [59, 32, 109, 105, 110, 32] ++ q.aggVar else if q.agg = 4 then [59, 32, 109, 97, 120, 32] ++ q.aggVar else []
def headS (q : Qry) : Str := [97, 110, 115, 40] ++ joinS comS q.head ++ aggS q ++ [41, 32, 58, 45, 32]
def keyS (k : Ky) : Str := k.v ++ (if k.desc = true then [32, 100, 101, 115, 99] else [])
def orderS (l : List Ky) : Str := if l = [] then [] else [32, 111, 114, 100, 101, 114, 32] ++ joinS comS (l.map keyS)
/-- The text of a valid query. -/
def textQ (q : Qry) : Str := headS q ++ joinS barS (q.rules.map ruleS) ++ orderS q.order
theorem rules_succ {q : Qry} {k : Nat} (h : k < q.rules.length) : joinS barS ((q.rules.take (k + 1)).map ruleS) = joinS barS ((q.rules.take k).map ruleS) ++ (if k = 0 then ruleS q.rules[k] else barS ++ ruleS q.rules[k]) := by
  rw [List.take_succ_eq_append_getElem h, List.map_append]
  show joinS barS (_ ++ [ruleS q.rules[k]]) = _
  rw [joinS_snoc]
  congr 1
  by_cases h0 : k = 0
  · subst h0; simp
  · rw [if_neg h0, if_neg]
    intro e
    rcases List.take_eq_nil_iff.1 (List.map_eq_nil_iff.1 e) with h1 | h1
    · exact h0 h1
    · rw [h1] at h; exact absurd h (by simp)
theorem order_succ {l : List Ky} {k : Nat} (h : k < l.length) : orderS (l.take (k + 1)) = orderS (l.take k) ++ (if k = 0 then [32, 111, 114, 100, 101, 114, 32] else comS) ++ keyS l[k] := by
  unfold orderS
  have h1 : l.take (k + 1) ≠ [] := by
    intro e
    have := congrArg List.length e
    simp at this
    subst this
    simp at h
  rw [if_neg h1, List.take_succ_eq_append_getElem h, List.map_append]
  show _ ++ joinS comS (_ ++ [keyS l[k]]) = _
  rw [joinS_snoc]
  by_cases h0 : k = 0
  · subst h0; simp [joinS]
  · have h2 : l.take k ≠ [] := by
      intro e
      rcases List.take_eq_nil_iff.1 e with g1 | g1
      · exact h0 g1
      · rw [g1] at h; exact absurd h (by simp)
    have h3 : (l.take k).map keyS ≠ [] := by simpa using h2
    rw [if_neg h2, if_neg h3, if_neg h0]
    simp
end Go.Proofs.YtgeapgbebbapmaaDoor
