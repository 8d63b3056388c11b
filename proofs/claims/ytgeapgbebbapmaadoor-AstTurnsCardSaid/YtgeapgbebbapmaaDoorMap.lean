/-
  MAPS OF THE CALL'S OWN, in plain words: a map keyed by strings reads as a function from names to what is stored. Nothing of the program.
-/
import Derived.Maps.OwnSet
import Derived.Maps.OwnOps
import Derived.Test.YtgeapgbebbapmaaDoorAst1
import Derived.Test.YtgeapgbebbapmaaDoorKit
namespace Go.Proofs.YtgeapgbebbapmaaDoor
open Go.RowKit

/-- How the elements of a map lie: R a value, L its datum. -/
structure Elem (α : Type) where
  R : α → Value
  L : α → Lit
  zero : α
/-- .. of the program's type e. -/
structure Elem.Ok {α : Type} (E : Elem α) (P : Program) (e : TypeId) : Prop where
  zrun : ∀ w, (zeroValue e).run P w = .ok (E.R E.zero) w
  z : plainElem (H := Unit) P e (E.R E.zero) = some (.lit (E.L E.zero), [])
  inv : ∀ (v : Value) (x : α) (ps : List MemPlace), plainElem (H := Unit) P e v = some (.lit (E.L x), ps) → v = E.R x

section
variable {P : Program} {e k t : TypeId} {α : Type} {E : Elem α} {w w' : World} {b n : Nat} {F : Str → Option α}

/-- Block b is a map of at most n entries that holds F's. -/
def MapAt (P : Program) (e k : TypeId) (E : Elem α) (w : World) (b n : Nat) (F : Str → Option α) : Prop :=
  ∃ D : DataW Unit, w.ownsMap P k (plainElem P e) b n D ∧ Maps.IsMap D ∧ ∀ l : Str, Maps.has D (.string l) = (F l).isSome ∧ D.atKey (.string l) (.lit (E.L E.zero)) = .lit (E.L ((F l).getD E.zero))

theorem MapAt.made (w : World) : MapAt P e k E (w.alloc (.map #[] 0)) w.heap.size 0 (fun _ => none) :=
  ⟨.map [], World.ownsMap_made w _ _ _, Maps.isMap_empty, fun _ => ⟨rfl, rfl⟩⟩
theorem MapAt.lt (h : MapAt P e k E w b n F) : b < w.heap.size := let ⟨_, h1, _⟩ := h; h1.lt
theorem MapAt.same (h : MapAt P e k E w b n F) (hb : w'.heap[b]? = w.heap[b]?) : MapAt P e k E w' b n F := by
  obtain ⟨D, ⟨es, clock, h1, h2⟩, h3⟩ := h
  exact ⟨D, ⟨es, clock, hb.trans h1, h2⟩, h3⟩
theorem MapAt.kept {row : Option Nat} (h : MapAt P e k E w b n F) (hg : w.grownBy w' row) (hne : some b ≠ row) : MapAt P e k E w' b n F :=
  h.same (hg.block b h.lt hne)
theorem MapAt.below (h : MapAt P e k E w b n F) (hb : Below w.heap.size w w') : MapAt P e k E w' b n F := h.same (hb.block b h.lt)
theorem MapAt.alloc (h : MapAt P e k E w b n F) (o : Obj) : MapAt P e k E (w.alloc o) b n F := h.kept (World.grownBy_alloc w o none) (by simp)
theorem MapAt.mono (h : MapAt P e k E w b n F) {m : Nat} (hm : n ≤ m) : MapAt P e k E w b m F := let ⟨D, h1, h2⟩ := h; ⟨D, h1.mono hm, h2⟩

def updF (F : Str → Option α) (x : Str) (y : α) : Str → Option α := fun l => if l = x then some y else F l

theorem MapAt.look (h : MapAt P e k E w b n F) (hE : E.Ok P e) (hk : P.underlying k = some .string) (ht : P.underlying t = some (.map k e)) (s : ByteArray) (hs : s.size ≤ maxLen) :
    (Instr.lookup t (.map (some b)) (.string s) false).run P w = .ok (E.R ((F s.data.toList).getD E.zero)) w := by
  obtain ⟨D, h1, _, h3⟩ := h
  obtain ⟨v, ps, hrun, hv⟩ := h1.lookup (Maps.string_keyed hk) ht (hE.zrun w) hE.z (WideMaps.keyOf_string_mk hk hs)
  rw [(h3 s.data.toList).2] at hv
  rw [hrun, hE.inv v _ ps hv]
theorem MapAt.lookOk (h : MapAt P e k E w b n F) (hE : E.Ok P e) (hk : P.underlying k = some .string) (ht : P.underlying t = some (.map k e)) (s : ByteArray) (hs : s.size ≤ maxLen) :
    (Instr.lookup t (.map (some b)) (.string s) true).run P w = .ok (.tuple #[E.R ((F s.data.toList).getD E.zero), .bool (F s.data.toList).isSome]) w := by
  obtain ⟨D, h1, _, h3⟩ := h
  obtain ⟨v, ps, hrun, hv⟩ := h1.look_ok (Maps.string_keyed hk) ht (hE.zrun w) hE.z (WideMaps.keyOf_string_mk hk hs)
  rw [(h3 s.data.toList).2] at hv
  rw [hrun, hE.inv v _ ps hv, (h3 s.data.toList).1]
theorem MapAt.put (h : MapAt P e k E w b n F) (hk : P.underlying k = some .string) (ht : P.underlying t = some (.map k e)) (hn : n < maxLen) (s : ByteArray) (hs : s.size ≤ maxLen) (y : α) (hy : plainElem (H := Unit) P e (E.R y) = some (.lit (E.L y), [])) :
    ∃ w', (Instr.mapUpdate t (.map (some b)) (.string s) (E.R y)).run P w = .ok () w' ∧ MapAt P e k E w' b (n + 1) (updF F s.data.toList y) ∧ w.grownBy w' (some b) := by
  obtain ⟨D, h1, h2, h3⟩ := h
  obtain ⟨w', hrun, h4, hg⟩ := h1.update (Maps.string_keyed hk) ht hn (WideMaps.keyOf_string_mk hk hs) hy
  refine ⟨w', hrun, ⟨_, h4, h2.put _ _, fun l => ?_⟩, hg⟩
  have kl : WideAt.IsKeyLit (.string s.data.toList) := by simp [WideAt.IsKeyLit]
  unfold updF
  by_cases hl : l = s.data.toList
  · subst hl
    rw [if_pos rfl]
    exact ⟨Maps.has_put_same h2 kl _, Maps.atKey_put_same h2 kl _ _⟩
  · rw [if_neg hl]
    have hne : (Lit.string l) ≠ .string s.data.toList := fun e => hl (by injection e)
    exact ⟨(Maps.has_put_other hne _).trans (h3 l).1, (Maps.atKey_put_other hne _ _).trans (h3 l).2⟩

/-- 'm[k]' at the operation. -/
theorem wpList_look {ops : Array Oper} {rest : List Oper} {o : Oper} {a : Act} {Q : Exit → Act → World → Prop}
    (hg : o.guard = none) (m x : Operand) (hop : o.op = Op.lookup t m x false) (h : MapAt P e k E w b n F) (hE : E.Ok P e) (hk : P.underlying k = some .string) (ht : P.underlying t = some (.map k e))
    (hm : a.eval m = .map (some b)) (s : ByteArray) (hx : a.eval x = .string s) (hs : s.size ≤ maxLen) (v : Value) (hv : E.R ((F s.data.toList).getD E.zero) = v)
    (hK : wpList P ops Q rest (a.put o.dst v) w) : wpList P ops Q (o :: rest) a w := by
  refine wpList_plain hg fun K' hK' => ?_
  have hrun := h.look hE hk ht s hs
  rw [hv] at hrun
  unfold Oper.wp
  simp [execOp, hop, hm, hx, hrun, Result.andThen]
  exact hK' _ _ hK
/-- 'v, ok := m[k]' at the operation. -/
theorem wpList_lookOk {ops : Array Oper} {rest : List Oper} {o : Oper} {a : Act} {Q : Exit → Act → World → Prop}
    (hg : o.guard = none) (m x : Operand) (hop : o.op = Op.lookup t m x true) (h : MapAt P e k E w b n F) (hE : E.Ok P e) (hk : P.underlying k = some .string) (ht : P.underlying t = some (.map k e))
    (hm : a.eval m = .map (some b)) (s : ByteArray) (hx : a.eval x = .string s) (hs : s.size ≤ maxLen) (v : Value) (hv : E.R ((F s.data.toList).getD E.zero) = v) (y : Bool) (hy : (F s.data.toList).isSome = y)
    (hK : wpList P ops Q rest (a.put o.dst (.tuple #[v, .bool y])) w) : wpList P ops Q (o :: rest) a w := by
  refine wpList_plain hg fun K' hK' => ?_
  have hrun := h.lookOk hE hk ht s hs
  rw [hv, hy] at hrun
  unfold Oper.wp
  simp [execOp, hop, hm, hx, hrun, Result.andThen]
  exact hK' _ _ hK
/-- 'm[k] = v' at the operation. -/
theorem wpList_put {ops : Array Oper} {rest : List Oper} {o : Oper} {a : Act} {Q : Exit → Act → World → Prop}
    (hg : o.guard = none) (m x v : Operand) (hop : o.op = Op.mapUpdate t m x v) (h : MapAt P e k E w b n F) (hk : P.underlying k = some .string) (ht : P.underlying t = some (.map k e)) (hn : n < maxLen)
    (hm : a.eval m = .map (some b)) (s : ByteArray) (hx : a.eval x = .string s) (hs : s.size ≤ maxLen) (y : α) (hv : a.eval v = E.R y) (hy : plainElem (H := Unit) P e (E.R y) = some (.lit (E.L y), []))
    (hK : ∀ w', MapAt P e k E w' b (n + 1) (updF F s.data.toList y) → w.grownBy w' (some b) → wpList P ops Q rest (a.put o.dst undef) w') : wpList P ops Q (o :: rest) a w := by
  refine wpList_plain hg fun K' hK' => ?_
  obtain ⟨w', hrun, r1, r2⟩ := h.put hk ht hn s hs y hy
  unfold Oper.wp
  simp [execOp, hop, hm, hx, hv, hrun, Result.andThen]
  exact hK' _ _ (hK w' r1 r2)
/-- A map literal's entry at the operation. -/
theorem wpList_insert {ops : Array Oper} {rest : List Oper} {o : Oper} {a : Act} {Q : Exit → Act → World → Prop}
    (hg : o.guard = none) (m x v : Operand) (hop : o.op = Op.insert t m x v) (h : MapAt P e k E w b n F) (hk : P.underlying k = some .string) (ht : P.underlying t = some (.map k e)) (hn : n < maxLen)
    (hm : a.eval m = .map (some b)) (s : ByteArray) (hx : a.eval x = .string s) (hs : s.size ≤ maxLen) (y : α) (hv : a.eval v = E.R y) (hy : plainElem (H := Unit) P e (E.R y) = some (.lit (E.L y), []))
    (hK : ∀ w', MapAt P e k E w' b (n + 1) (updF F s.data.toList y) → w.grownBy w' (some b) → wpList P ops Q rest (a.put o.dst undef) w') : wpList P ops Q (o :: rest) a w := by
  refine wpList_plain hg fun K' hK' => ?_
  obtain ⟨w', hrun, r1, r2⟩ := h.put hk ht hn s hs y hy
  unfold Oper.wp
  simp [execOp, hop, hm, hx, hv, hrun, Result.andThen]
  exact hK' _ _ (hK w' r1 r2)
end

def EB : Elem Bool := ⟨.bool, .bool, false⟩
def EI : Elem Int := ⟨.int .i64, .int .i64, 0⟩
def ES : Elem Str := ⟨fun l => .string ⟨l.toArray⟩, .string, []⟩
theorem EB.ok {P : Program} {e : TypeId} (he : P.underlying e = some .bool) (hz : ∀ w, (zeroValue e).run P w = .ok (.bool false) w) : EB.Ok P e where
  zrun := hz
  z := plainElem_bool he false
  inv := fun v x ps h => by
    unfold plainElem at h
    rw [he] at h
    cases v <;> simp [EB] at h
    rw [h.1]; rfl
theorem EI.ok {P : Program} {e : TypeId} (he : P.underlying e = some (.int .i64)) (hz : ∀ w, (zeroValue e).run P w = .ok (.int .i64 0) w) : EI.Ok P e where
  zrun := hz
  z := plainElem_int he (by decide)
  inv := fun v x ps h => by
    obtain ⟨a, rfl, hz, _⟩ := plainElem_int_inv he h
    simp only [EI, Prod.mk.injEq, DataW.lit.injEq, Lit.int.injEq, true_and] at hz
    rw [hz.1]; rfl
theorem ES.ok {P : Program} {e : TypeId} (he : P.underlying e = some .string) (hz : ∀ w, (zeroValue e).run P w = .ok (.string ⟨#[]⟩) w) : ES.Ok P e where
  zrun := hz
  z := plainElem_string he (by decide)
  inv := fun v x ps h => by
    unfold plainElem at h
    rw [he] at h
    cases v <;> simp [ES] at h
    obtain ⟨_, h, _⟩ := h
    simp only [ES]
    rw [← h]

/-- A set. -/
def setF (S : List Str) : Str → Option Bool := fun l => if l ∈ S then some true else none
theorem setF_get (S : List Str) (l : Str) : (setF S l).getD false = decide (l ∈ S) := by
  unfold setF; split <;> simp [*]
theorem setF_put (S : List Str) (x : Str) : updF (setF S) x true = setF (S ++ [x]) := by
  funext l
  unfold updF setF
  by_cases h : l = x
  · subst h; simp
  · simp [h]
theorem setF_nil : (fun _ => none) = setF [] := by funext l; simp [setF]
end Go.Proofs.YtgeapgbebbapmaaDoor
