/-
  PARTS of a claim, merged by segs.py: PsO.
-/
import Derived.Test.YtjhnopnppimnhaaGreatDoorZ19
import Derived.Test.YtjhnopnppimnhaaGreatDoorZ05
namespace Go.Proofs.YtjhnopnppimnhaaGreatDoor

/-! ### PsO -/
section
open Go.RowKit

theorem OwnRl.mono {w : World} {B B' : Nat} {ua uc : Value} {r : Rul} (h : OwnRl w B' ua uc r) (hB : B ≤ B') : OwnRl w B ua uc r := ⟨h.1.mono hB, ren_mono h.2 hB⟩
theorem OwnRl.nil {w : World} {B : Nat} : OwnRl w B (.slice none 0 0) (.slice none 0 0) R0 := ⟨OwnAts.nil, World.ownsRow_nil _ _ _ _⟩
theorem infoQyP : (Tryz.prog.info? 95).map (·.size) = some 5 := by kernel_rfl
/-- A query that has a head and an aggregate alone. -/
theorem box_set {w : World} {g : Nat} {cs : Array Value} {t : TypeId} (h : w.heap[g]? = some (.cells cs t)) (i : Nat) (v : Value) : (w.setCell ⟨g, i, none⟩ v).heap[g]? = some (.cells (cs.setIfInBounds i v) t) := by
  simp [World.setCell, Array.getElem?_modify, h]
theorem infoRlP2 : (Tryz.prog.info? 142).map (fun i => (i.zero, i.size, i.bytes)) = some (some (.agg #[.slice none 0 0, .slice none 0 0]), 2, 48) := by kernel_rfl
abbrev qyC (H : Option Addr) (n c : Nat) (a : Int) (s : ByteArray) (R : Option Addr) (nr cr : Nat) (O : Option Addr) (no co : Nat) : Array Value := #[.slice H n c, .int .i64 a, .string s, .slice R nr cr, .slice O no co]
abbrev qyO (H : Option Addr) (n c : Nat) (a : Int) (s : ByteArray) (R : Option Addr) (nr cr : Nat) (O : Option Addr) (no co : Nat) : Obj := .cells (qyC H n c a s R nr cr O no co) 95
/-- A query of the call's own. -/
def OwnQy (w : World) (B : Nat) (H : Option Addr) (ch : Nat) (R : Option Addr) (cr : Nat) (O : Option Addr) (co : Nat) (q : Qry) : Prop :=
  w.ownsRow B 9 1 (.slice H q.head.length ch) q.head.length (q.head.map nmV) ∧ OwnRls w B (.slice R q.rules.length cr) q.rules ∧ w.ownsRow B 147 2 (.slice O q.order.length co) q.order.length (q.order.flatMap cellsK)
theorem OwnRls.mono {w : World} {B B' : Nat} {u : Value} {l : List Rul} (h : OwnRls w B' u l) (hB : B ≤ B') : OwnRls w B u l :=
  let ⟨us, vs, h0, h1, h2, h3⟩ := h; ⟨us, vs, h0, h1, ren_mono h2 hB, fun i a b c => ⟨(h3 i a b c).1.mono hB, ren_mono (h3 i a b c).2 hB⟩⟩
theorem OwnQy.mono {w : World} {B B' : Nat} {H R O : Option Addr} {ch cr co : Nat} {q : Qry} (h : OwnQy w B' H ch R cr O co q) (hB : B ≤ B') : OwnQy w B H ch R cr O co q :=
  ⟨ren_mono h.1 hB, h.2.1.mono hB, ren_mono h.2.2 hB⟩
theorem OwnQy.far {w w' : World} {B t : Nat} {H R O : Option Addr} {ch cr co : Nat} {q : Qry} (h : OwnQy w B H ch R cr O co q) (hg : w.grownBy w' (some t)) (ht : t < B) : OwnQy w' B H ch R cr O co q :=
  ⟨ren_far h.1 hg ht, h.2.1.far hg ht, ren_far h.2.2 hg ht⟩
theorem OwnQy.below {w w' : World} {B : Nat} {H R O : Option Addr} {ch cr co : Nat} {q : Qry} (h : OwnQy w B H ch R cr O co q) (hb : Below w.heap.size w w') : OwnQy w' B H ch R cr O co q :=
  ⟨own_belowS h.1 hb, h.2.1.below hb, own_belowS h.2.2 hb⟩
theorem headS_sort {tk : Nat → Tok} {n nx : Nat} {q : Qry} (e : headG tk n = .ok q nx) : q.rules = [] ∧ q.order = [] := by
  have hend : ∀ {i nx : Nat} {q q' : Qry}, endS tk i q = .ok q' nx → q' = q := by
    intro i nx q q' e
    unfold endS at e
    split at e
    · split at e
      · injection e with e1; exact e1.symm
      · cases e
    · cases e
  have hsemi : ∀ {i nx : Nat} {q q' : Qry}, semiS tk i q = .ok q' nx → q'.rules = q.rules ∧ q'.order = q.order := by
    intro i nx q q' e
    unfold semiS at e
    split at e
    · cases ha : aggG tk (i + 1) q with
      | bad _ => rw [ha] at e; cases e
      | ok q2 n2 =>
        rw [ha] at e
        have := hend e
        subst this
        unfold aggG at ha
        split at ha
        · injection ha with e1 e2; rw [← e1]; exact ⟨rfl, rfl⟩
        · split at ha
          · cases ha
          · split at ha
            · cases ha
            · injection ha with e1 e2; rw [← e1]; exact ⟨rfl, rfl⟩
    · have := hend e
      subst this
      exact ⟨rfl, rfl⟩
  unfold headG at e
  split at e
  · cases e
  · split at e
    · cases e
    · split at e
      · split at e
        · cases e
        · exact hsemi e
      · exact hsemi e

end
end Go.Proofs.YtjhnopnppimnhaaGreatDoor
