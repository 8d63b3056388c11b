/-
  SMALL TOOLS: a region that draws its order, whose operations only read and whose callees may lay blocks of their own, walked once: the class of worlds that the world has grown into. Nothing of the program.
-/
import Derived.Test.YtaghaigckgckpaaDoorKit
import Derived.BigQuiet
namespace Go.Proofs.YtaghaigckgckpaaDoor
open Go.RowKit

/-- A world that w has grown into. -/
structure BelowBy (w : World) where
  to : World
  le : Below w.heap.size w to
instance (w : World) : Inhabited (BelowBy w) := ⟨w, Below.refl _ _⟩

theorem wp_region_below {P : Program} {id : Nat} {Q : Exit → Act → World → Prop} {a : Act} {w : World} {l : List Oper} (hm : P.follows .mixedOrders = true) (hB : Region.lexB .any l.toArray = true)
    (h : wpQuiet P l.toArray (fun w' => ∃ p : BelowBy w, w' = p.to) (fun a' => ∀ w', (∃ p : BelowBy w, w' = p.to) → Q .normal a' w') l a) : (Code.region id l.toArray true).wp P Q a w :=
  wp_region_quiet (C := fun w' => ∃ p : BelowBy w, w' = p.to) hm hB ⟨⟨w.drew, (Below.refl _ _).drew⟩, rfl⟩ (by simpa using h)

theorem calls_by {P : Program} {f : FuncId} {args : Array Value} {w : World} {p : BelowBy w} {v : Value}
    (h : Calls P f args p.to fun e w' => e = .returned v ∧ Below p.to.heap.size p.to w') : Calls P f args p.to fun e w'' => e = .returned v ∧ ∃ q : BelowBy w, w'' = q.to :=
  h.mono fun _ w' ⟨he, hb⟩ => ⟨he, ⟨w', p.le.trans (hb.mono p.le.size)⟩, rfl⟩

theorem by_cell {w : World} {b o : Nat} {v : Value} (h : w.cell? ⟨b, o, none⟩ = some v) (p : BelowBy w) : p.to.cell? ⟨b, o, none⟩ = some v := by
  rw [p.le.cell (p := ⟨b, o, none⟩) (by
    unfold World.cell? at h
    cases hq : w.heap[b]? with
    | none => simp [hq] at h
    | some x => exact (Array.getElem?_eq_some_iff.1 hq).1)]; exact h
theorem cell_keep {w w' : World} {b o : Nat} {v : Value} (hb : Below w.heap.size w w') (h : w.cell? ⟨b, o, none⟩ = some v) : w'.cell? ⟨b, o, none⟩ = some v :=
  by_cell h ⟨w', hb⟩
end Go.Proofs.YtaghaigckgckpaaDoor
