/-
  STRUCT RESULTS: a store of a whole struct into the block that it lies in. Nothing of the program.
-/
import Derived.Test.YtgeapgbebbapmaaDoorKit
import Derived.Handy
import Derived.OneCell
namespace Go.Proofs.YtgeapgbebbapmaaDoor
open Go.RowKit

/-- A store of a whole struct into the block that it lies in (a struct result). -/
theorem below_setRow' (w : World) (g : Nat) (cs : Array Value) : Below g w (w.setRow g cs) :=
  ⟨rfl, rfl, rfl, by simp [World.setRow], fun k hk => setRow_other w g k cs (by omega)⟩

theorem wpList_stored {P : Program} {w : World} {ops : Array Oper} {rest : List Oper} {o : Oper} {a : Act} {Q : Exit → Act → World → Prop} (hgd : o.guard = none) {ty : TypeId} {x y : Operand} (ho : o.op = .store ty x y)
    {g : Nat} {cells : Array Value} (hx : a.eval x = .pointer (some ⟨g, 0, none⟩)) (hy : a.eval y = .agg cells) {t : TypeId} {old : Array Value} (hz : w.heap[g]? = some (.cells old t))
    (hi : (P.info? ty).map (·.size) = some cells.size) (hold : old.size = cells.size) (h1 : cells.toList.all (·.oneCell') = true)
    (h : ∀ w', w'.heap[g]? = some (.cells cells t) → Below g w w' → wpList P ops Q rest (a.put o.dst undef) w') : wpList P ops Q (o :: rest) a w :=
  wpList_plain hgd fun _ hK => wp_store_row ty x y ho g cells hx hy t old hz hi hold (by simpa using h1) (hK _ _ (h _ (setRow_heap w g old cells t _ hz) (below_setRow' w g cells)))

theorem grown_setRow (w : World) (g : Nat) (cs : Array Value) : w.grownBy (w.setRow g cs) (some g) :=
  ⟨rfl, rfl, rfl, by simp [World.setRow], fun k _ hk => setRow_other w g k cs (fun e => hk (by rw [e]))⟩
theorem wpList_stored2 {P : Program} {w : World} {ops : Array Oper} {rest : List Oper} {o : Oper} {a : Act} {Q : Exit → Act → World → Prop} (hgd : o.guard = none) {ty : TypeId} {x y : Operand} (ho : o.op = .store ty x y)
    {g : Nat} {cells : Array Value} (hx : a.eval x = .pointer (some ⟨g, 0, none⟩)) (hy : a.eval y = .agg cells) {t : TypeId} {old : Array Value} (hz : w.heap[g]? = some (.cells old t))
    (hi : (P.info? ty).map (·.size) = some cells.size) (hold : old.size = cells.size) (h1 : cells.toList.all (·.oneCell') = true)
    (h : ∀ w', w'.heap[g]? = some (.cells cells t) → w.grownBy w' (some g) → wpList P ops Q rest (a.put o.dst undef) w') : wpList P ops Q (o :: rest) a w :=
  wpList_plain hgd fun _ hK => wp_store_row ty x y ho g cells hx hy t old hz hi hold (by simpa using h1) (hK _ _ (h _ (setRow_heap w g old cells t _ hz) (grown_setRow w g cells)))
theorem res_at' {w w' : World} {o : Obj} (h : Below (w.alloc o).heap.size (w.alloc o) w') : w'.heap[w.heap.size]? = some o := by
  rw [h.block _ (by simp)]; exact heap_alloc_new w o
theorem res_keep' {w w' : World} {g B : Nat} {o : Obj} (hz : w.heap[g]? = some o) (h : Below B w w') (hg : g < B) : w'.heap[g]? = some o := by
  rw [h.block _ hg]; exact hz
theorem cell_res' {w : World} {g : Nat} {cs : Array Value} {t : TypeId} (hz : w.heap[g]? = some (.cells cs t)) (k : Nat) : w.cell? ⟨g, k, none⟩ = cs[k]? := by
  simp [World.cell?, hz]


/-- A block that a call lays first, later. -/
theorem res_first {w w' : World} {o : Obj} (h : Below (w.heap.size + 1) (w.alloc o) w') : w'.heap[w.heap.size]? = some o := by
  rw [h.block _ (by omega)]; exact heap_alloc_new w o
end Go.Proofs.YtgeapgbebbapmaaDoor
