/-
  PLAIN: a query with a function applied to every variable.
-/
import Derived.Test.YtgeapgbebbapmaaDoorAst1
namespace Go.Proofs.YtgeapgbebbapmaaDoor

def mapT (f : Str → Str) (t : Trm) : Trm := ⟨f t.v, t.c⟩
def mapA (f : Str → Str) (a : Atm) : Atm := ⟨a.neg, a.rel, a.ts.map (mapT f)⟩
def mapC (f : Str → Str) (c : Cnd) : Cnd := ⟨f c.v, c.op, c.c⟩
def mapR (f : Str → Str) (r : Rul) : Rul := ⟨r.atoms.map (mapA f), r.conds.map (mapC f)⟩
def mapKy (f : Str → Str) (k : Ky) : Ky := ⟨f k.v, k.desc⟩
/-- The query with a function applied to every variable. -/
def mapQ (f : Str → Str) (q : Qry) : Qry := ⟨q.head.map f, q.agg, f q.aggVar, q.rules.map (mapR f), q.order.map (mapKy f)⟩
end Go.Proofs.YtgeapgbebbapmaaDoor
