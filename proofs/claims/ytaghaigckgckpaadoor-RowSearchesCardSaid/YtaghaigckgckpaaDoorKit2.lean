/-
  SMALL TOOLS, continued.
-/
import Derived.Test.YtaghaigckgckpaaDoorKit
namespace Go.Proofs.YtaghaigckgckpaaDoor
open Go.RowKit

/-- 'append(out, x, ..)' where the new block's number stands as the walk has reckoned it. -/
theorem wpList_append_new2 {P : Program} {w0 : World} {news : List Value} {ops : Array Oper} {rest : List Oper} {o : Oper} {a : Act} {Q : Exit → Act → World → Prop} {t e : TypeId} {i : TypeInfo} {z : Value} {size bytes : Nat}
    (ht : P.underlying t = some (.slice e)) (hi : P.info? e = some i) (hz : i.zero = some z) (hsize : i.size = size) (hby : i.bytes = bytes) (hzs : z.cells.size = size) (hsz : 0 < size) (hb1 : 0 < bytes)
    (hgd : o.guard = none) {s x : Operand} (ho : o.op = .call { callee := .builtin .append, args := #[s, x], argTypes := #[t, t] })
    {base : Nat} {v : Value} {n : Nat} {xs : List Value} (hs : a.eval s = v) (hown : w0.ownsRow base e size v n xs) {g m c : Nat} (hx : a.eval x = .slice (some ⟨g, 0, none⟩) m c) (hg : g = w0.heap.size)
    (hl : news.length = m * size) (h1 : news.all (·.oneCell') = true) (hlim : (n + m) * bytes ≤ 140737488355328) (hbase : base ≤ w0.heap.size)
    (h : ∀ v' w', w'.ownsRow base e size v' (n + m) (xs ++ news) → w0.grownBy w' v.ownBlock → wpList P ops Q rest (a.put o.dst v') w') : wpList P ops Q (o :: rest) a (w0.alloc (.cells news.toArray e)) := by
  subst hg
  exact wpList_append_new ht hi hz hsize hby hzs hsz hb1 hgd ho hs hown hx hl h1 hlim hbase h

end Go.Proofs.YtaghaigckgckpaaDoor
