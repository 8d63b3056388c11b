/-
  MAPS OF THE CALL'S OWN, RANGED OVER. Nothing of the program.
-/
import Derived.Maps.RangeWalk
import Derived.Test.YtgeapgbebbapmaaMap
namespace Go.Proofs.Ytgeapgbebbapmaa
open Go.RowKit

section
variable {P : Program} {e k t : TypeId} {α : Type} {E : Elem α} {w w' : World} {b r n cnt : Nat} {F : Str → Option α} {Lf : Str → Bool}

/-- Block r is an iterator over the map in block b; Lf: which keys are still to come. -/
def RngAt (P : Program) (e k : TypeId) (E : Elem α) (w : World) (b r n : Nat) (F : Str → Option α) (Lf : Str → Bool) (cnt : Nat) : Prop :=
  ∃ (D : DataW Unit) (left : Lit → Bool), w.ranges P k (plainElem P e) b r n D left cnt ∧ Maps.IsMap D ∧ (∀ l : Str, Maps.has D (.string l) = (F l).isSome ∧ D.atKey (.string l) (.lit (E.L E.zero)) = .lit (E.L ((F l).getD E.zero))) ∧ ∀ l : Str, left (.string l) = Lf l
theorem RngAt.map (h : RngAt P e k E w b r n F Lf cnt) : MapAt P e k E w b n F := let ⟨D, _, h1, h2, h3, _⟩ := h; ⟨D, h1.owns, h2, h3⟩
theorem RngAt.lt (h : RngAt P e k E w b r n F Lf cnt) : r < w.heap.size := let ⟨_, _, h1, _⟩ := h; h1.lt
theorem RngAt.ne (h : RngAt P e k E w b r n F Lf cnt) : r ≠ b := let ⟨_, _, h1, _⟩ := h; h1.ne
theorem RngAt.left_eq (h : RngAt P e k E w b r n F Lf cnt) : w.rangeLeft b r = cnt := let ⟨_, _, h1, _⟩ := h; h1.left_eq
theorem RngAt.kept {row : Option Nat} (h : RngAt P e k E w b r n F Lf cnt) (hg : w.grownBy w' row) (hb : some b ≠ row) (hr : some r ≠ row) : RngAt P e k E w' b r n F Lf cnt :=
  let ⟨D, left, h1, h2⟩ := h; ⟨D, left, h1.kept hg hb hr, h2⟩

theorem wpList_rangeMap {ops : Array Oper} {rest : List Oper} {o : Oper} {a : Act} {Q : Exit → Act → World → Prop}
    (hg : o.guard = none) (m : Operand) (hop : o.op = Op.range t m) (h : MapAt P e k E w b n F) (hk : P.underlying k = some .string) (ht : P.underlying t = some (.map k e)) (hm : a.eval m = .map (some b))
    (hK : ∀ w' cnt, RngAt P e k E w' b w.heap.size n F (fun l => (F l).isSome) cnt → w.grownBy w' none → w'.heap.size = w.heap.size + 1 → wpList P ops Q rest (a.put o.dst (.pointer (some ⟨w.heap.size, 0, none⟩))) w') :
    wpList P ops Q (o :: rest) a w := by
  obtain ⟨D, h1, h2, h3⟩ := h
  exact wpList_range_own w hg m t hop k e (Maps.string_keyed hk) ht (plainElem P e) b n D hm h1 fun w' hr hg' hs => hK w' _ ⟨D, _, hr, h2, h3, fun l => (h3 l).1⟩ hg' hs

theorem wpList_nextSet {F : Str → Option Bool} {E : Elem Bool} {ops : Array Oper} {rest : List Oper} {o : Oper} {a : Act} {Q : Exit → Act → World → Prop}
    (hg : o.guard = none) (it : Operand) (hop : o.op = Op.next it false) (hk : P.underlying k = some .string) (he : P.underlying e = some .bool)
    (hit : a.eval it = .pointer (some ⟨r, 0, none⟩)) (h : RngAt P e k E w b r n F Lf cnt)
    (hDone : (∀ l, Lf l = false) → wpList P ops Q rest (a.put o.dst (.tuple #[.bool false])) w)
    (hMore : ∀ (X : ByteArray) (c : Value) (w' : World) (cnt' : Nat), Lf X.data.toList = true → X.size ≤ maxLen → RngAt P e k E w' b r n F (fun l => Lf l && !(l == X.data.toList)) cnt' → cnt' < cnt → w.grownBy w' (some r) → w'.heap.size = w.heap.size →
      (Instr.entry (.pointer (some ⟨r, 0, none⟩))).run P w' = .ok (.tuple #[.string X, c]) w' → wpList P ops Q rest (a.put o.dst (.tuple #[.bool true, .string X, c])) w') :
    wpList P ops Q (o :: rest) a w := by
  obtain ⟨D, left, h1, h2, h3, h4⟩ := h
  refine wpList_next_ranges w hg it hop k (Maps.string_keyed hk) (plainElem P e) Value.string Value.bool ?_ ?_ b r n D left cnt hit h1 ?_ ?_
  · intro key kl hkey
    obtain ⟨s, e, _⟩ := WideMaps.string_of_keyOf hk hkey
    exact ⟨s, e⟩
  · intro v y hv
    unfold plainElem at hv
    rw [he] at hv
    cases v <;> first | exact ⟨_, rfl⟩ | (simp at hv)
  · intro _ hl
    exact hDone fun l => (h4 l).symm.trans (hl _)
  · intro X c kl y w' cnt' hkey hlk hv hat hrg hlt hgr hsz hen
    obtain ⟨s, es, hkl, hXs⟩ := WideMaps.string_of_keyOf hk hkey
    injection es with es
    subst es hkl
    refine hMore X (.bool c) w' cnt' ((h4 _).symm.trans hlk) hXs ⟨D, _, hrg, h2, h3, fun l => ?_⟩ hlt hgr hsz hen
    rw [h4 l]
    congr 2
end
end Go.Proofs.Ytgeapgbebbapmaa
