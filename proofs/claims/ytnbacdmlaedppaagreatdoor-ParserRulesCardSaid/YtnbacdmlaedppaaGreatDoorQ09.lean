/-
  PARTS of a claim, merged by segs.py: Map, OpenQ.
-/
import Derived.Test.YtnbacdmlaedppaaGreatDoorQ02
import Derived.Test.YtnbacdmlaedppaaGreatDoorQ06
import Derived.Test.YtnbacdmlaedppaaGreatDoorQ07
import Derived.Maps.OwnSet
import Derived.Maps.OwnOps
import Derived.Deep.Slices
import Derived.Lib.SmallJoins
namespace Go.Proofs.YtnbacdmlaedppaaGreatDoor

/-! ### Map -/
section
open Go.RowKit

/-- How the elements of a map lie: R a value, L its datum. -/
structure Elem (α : Type) where
  R : α → Value
  L : α → Lit
  zero : α
/-- .. of the program's type e. -/
structure Elem.Ok {α : Type} (E : Elem α) (P : Program) (e : TypeId) : Prop where
  zrun : ∀ w, (zeroValue e).run P w = .ok (E.R E.zero) w
  z : plainElem (H := Unit) P e (E.R E.zero) = some (.lit (E.L E.zero), [])
  inv : ∀ (v : Value) (x : α) (ps : List MemPlace), plainElem (H := Unit) P e v = some (.lit (E.L x), ps) → v = E.R x

section
variable {P : Program} {e k t : TypeId} {α : Type} {E : Elem α} {w w' : World} {b n : Nat} {F : Str → Option α}

/-- Block b is a map of at most n entries that holds F's. -/
def MapAt (P : Program) (e k : TypeId) (E : Elem α) (w : World) (b n : Nat) (F : Str → Option α) : Prop :=
  ∃ D : DataW Unit, w.ownsMap P k (plainElem P e) b n D ∧ Maps.IsMap D ∧ ∀ l : Str, Maps.has D (.string l) = (F l).isSome ∧ D.atKey (.string l) (.lit (E.L E.zero)) = .lit (E.L ((F l).getD E.zero))

theorem MapAt.made (w : World) : MapAt P e k E (w.alloc (.map #[] 0)) w.heap.size 0 (fun _ => none) :=
  ⟨.map [], World.ownsMap_made w _ _ _, Maps.isMap_empty, fun _ => ⟨rfl, rfl⟩⟩
theorem MapAt.lt (h : MapAt P e k E w b n F) : b < w.heap.size := let ⟨_, h1, _⟩ := h; h1.lt
theorem MapAt.same (h : MapAt P e k E w b n F) (hb : w'.heap[b]? = w.heap[b]?) : MapAt P e k E w' b n F := by
  obtain ⟨D, ⟨es, clock, h1, h2⟩, h3⟩ := h
  exact ⟨D, ⟨es, clock, hb.trans h1, h2⟩, h3⟩
theorem MapAt.kept {row : Option Nat} (h : MapAt P e k E w b n F) (hg : w.grownBy w' row) (hne : some b ≠ row) : MapAt P e k E w' b n F :=
  h.same (hg.block b h.lt hne)
theorem MapAt.below (h : MapAt P e k E w b n F) (hb : Below w.heap.size w w') : MapAt P e k E w' b n F := h.same (hb.block b h.lt)
theorem MapAt.alloc (h : MapAt P e k E w b n F) (o : Obj) : MapAt P e k E (w.alloc o) b n F := h.kept (World.grownBy_alloc w o none) (by simp)
theorem MapAt.mono (h : MapAt P e k E w b n F) {m : Nat} (hm : n ≤ m) : MapAt P e k E w b m F := let ⟨D, h1, h2⟩ := h; ⟨D, h1.mono hm, h2⟩

def updF (F : Str → Option α) (x : Str) (y : α) : Str → Option α := fun l => if l = x then some y else F l

theorem MapAt.look (h : MapAt P e k E w b n F) (hE : E.Ok P e) (hk : P.underlying k = some .string) (ht : P.underlying t = some (.map k e)) (s : ByteArray) (hs : s.size ≤ maxLen) :
    (Instr.lookup t (.map (some b)) (.string s) false).run P w = .ok (E.R ((F s.data.toList).getD E.zero)) w := by
  obtain ⟨D, h1, _, h3⟩ := h
  obtain ⟨v, ps, hrun, hv⟩ := h1.lookup (Maps.string_keyed hk) ht (hE.zrun w) hE.z (WideMaps.keyOf_string_mk hk hs)
  rw [(h3 s.data.toList).2] at hv
  rw [hrun, hE.inv v _ ps hv]
theorem MapAt.lookOk (h : MapAt P e k E w b n F) (hE : E.Ok P e) (hk : P.underlying k = some .string) (ht : P.underlying t = some (.map k e)) (s : ByteArray) (hs : s.size ≤ maxLen) :
    (Instr.lookup t (.map (some b)) (.string s) true).run P w = .ok (.tuple #[E.R ((F s.data.toList).getD E.zero), .bool (F s.data.toList).isSome]) w := by
  obtain ⟨D, h1, _, h3⟩ := h
  obtain ⟨v, ps, hrun, hv⟩ := h1.look_ok (Maps.string_keyed hk) ht (hE.zrun w) hE.z (WideMaps.keyOf_string_mk hk hs)
  rw [(h3 s.data.toList).2] at hv
  rw [hrun, hE.inv v _ ps hv, (h3 s.data.toList).1]
theorem MapAt.put (h : MapAt P e k E w b n F) (hk : P.underlying k = some .string) (ht : P.underlying t = some (.map k e)) (hn : n < maxLen) (s : ByteArray) (hs : s.size ≤ maxLen) (y : α) (hy : plainElem (H := Unit) P e (E.R y) = some (.lit (E.L y), [])) :
    ∃ w', (Instr.mapUpdate t (.map (some b)) (.string s) (E.R y)).run P w = .ok () w' ∧ MapAt P e k E w' b (n + 1) (updF F s.data.toList y) ∧ w.grownBy w' (some b) := by
  obtain ⟨D, h1, h2, h3⟩ := h
  obtain ⟨w', hrun, h4, hg⟩ := h1.update (Maps.string_keyed hk) ht hn (WideMaps.keyOf_string_mk hk hs) hy
  refine ⟨w', hrun, ⟨_, h4, h2.put _ _, fun l => ?_⟩, hg⟩
  have kl : WideAt.IsKeyLit (.string s.data.toList) := by simp [WideAt.IsKeyLit]
  unfold updF
  by_cases hl : l = s.data.toList
  · subst hl
    rw [if_pos rfl]
    exact ⟨Maps.has_put_same h2 kl _, Maps.atKey_put_same h2 kl _ _⟩
  · rw [if_neg hl]
    have hne : (Lit.string l) ≠ .string s.data.toList := fun e => hl (by injection e)
    exact ⟨(Maps.has_put_other hne _).trans (h3 l).1, (Maps.atKey_put_other hne _ _).trans (h3 l).2⟩

/-- 'm[k]' at the operation. -/
theorem wpList_look {ops : Array Oper} {rest : List Oper} {o : Oper} {a : Act} {Q : Exit → Act → World → Prop}
    (hg : o.guard = none) (m x : Operand) (hop : o.op = Op.lookup t m x false) (h : MapAt P e k E w b n F) (hE : E.Ok P e) (hk : P.underlying k = some .string) (ht : P.underlying t = some (.map k e))
    (hm : a.eval m = .map (some b)) (s : ByteArray) (hx : a.eval x = .string s) (hs : s.size ≤ maxLen) (v : Value) (hv : E.R ((F s.data.toList).getD E.zero) = v)
    (hK : wpList P ops Q rest (a.put o.dst v) w) : wpList P ops Q (o :: rest) a w := by
  refine wpList_plain hg fun K' hK' => ?_
  have hrun := h.look hE hk ht s hs
  rw [hv] at hrun
  unfold Oper.wp
  simp [execOp, hop, hm, hx, hrun, Result.andThen]
  exact hK' _ _ hK
/-- 'v, ok := m[k]' at the operation. -/
theorem wpList_lookOk {ops : Array Oper} {rest : List Oper} {o : Oper} {a : Act} {Q : Exit → Act → World → Prop}
    (hg : o.guard = none) (m x : Operand) (hop : o.op = Op.lookup t m x true) (h : MapAt P e k E w b n F) (hE : E.Ok P e) (hk : P.underlying k = some .string) (ht : P.underlying t = some (.map k e))
    (hm : a.eval m = .map (some b)) (s : ByteArray) (hx : a.eval x = .string s) (hs : s.size ≤ maxLen) (v : Value) (hv : E.R ((F s.data.toList).getD E.zero) = v) (y : Bool) (hy : (F s.data.toList).isSome = y)
    (hK : wpList P ops Q rest (a.put o.dst (.tuple #[v, .bool y])) w) : wpList P ops Q (o :: rest) a w := by
  refine wpList_plain hg fun K' hK' => ?_
  have hrun := h.lookOk hE hk ht s hs
  rw [hv, hy] at hrun
  unfold Oper.wp
  simp [execOp, hop, hm, hx, hrun, Result.andThen]
  exact hK' _ _ hK
/-- 'm[k] = v' at the operation. -/
theorem wpList_put {ops : Array Oper} {rest : List Oper} {o : Oper} {a : Act} {Q : Exit → Act → World → Prop}
    (hg : o.guard = none) (m x v : Operand) (hop : o.op = Op.mapUpdate t m x v) (h : MapAt P e k E w b n F) (hk : P.underlying k = some .string) (ht : P.underlying t = some (.map k e)) (hn : n < maxLen)
    (hm : a.eval m = .map (some b)) (s : ByteArray) (hx : a.eval x = .string s) (hs : s.size ≤ maxLen) (y : α) (hv : a.eval v = E.R y) (hy : plainElem (H := Unit) P e (E.R y) = some (.lit (E.L y), []))
    (hK : ∀ w', MapAt P e k E w' b (n + 1) (updF F s.data.toList y) → w.grownBy w' (some b) → wpList P ops Q rest (a.put o.dst undef) w') : wpList P ops Q (o :: rest) a w := by
  refine wpList_plain hg fun K' hK' => ?_
  obtain ⟨w', hrun, r1, r2⟩ := h.put hk ht hn s hs y hy
  unfold Oper.wp
  simp [execOp, hop, hm, hx, hv, hrun, Result.andThen]
  exact hK' _ _ (hK w' r1 r2)
/-- A map literal's entry at the operation. -/
theorem wpList_insert {ops : Array Oper} {rest : List Oper} {o : Oper} {a : Act} {Q : Exit → Act → World → Prop}
    (hg : o.guard = none) (m x v : Operand) (hop : o.op = Op.insert t m x v) (h : MapAt P e k E w b n F) (hk : P.underlying k = some .string) (ht : P.underlying t = some (.map k e)) (hn : n < maxLen)
    (hm : a.eval m = .map (some b)) (s : ByteArray) (hx : a.eval x = .string s) (hs : s.size ≤ maxLen) (y : α) (hv : a.eval v = E.R y) (hy : plainElem (H := Unit) P e (E.R y) = some (.lit (E.L y), []))
    (hK : ∀ w', MapAt P e k E w' b (n + 1) (updF F s.data.toList y) → w.grownBy w' (some b) → wpList P ops Q rest (a.put o.dst undef) w') : wpList P ops Q (o :: rest) a w := by
  refine wpList_plain hg fun K' hK' => ?_
  obtain ⟨w', hrun, r1, r2⟩ := h.put hk ht hn s hs y hy
  unfold Oper.wp
  simp [execOp, hop, hm, hx, hv, hrun, Result.andThen]
  exact hK' _ _ (hK w' r1 r2)
end

def EB : Elem Bool := ⟨.bool, .bool, false⟩
def EI : Elem Int := ⟨.int .i64, .int .i64, 0⟩
def ES : Elem Str := ⟨fun l => .string ⟨l.toArray⟩, .string, []⟩
theorem EB.ok {P : Program} {e : TypeId} (he : P.underlying e = some .bool) (hz : ∀ w, (zeroValue e).run P w = .ok (.bool false) w) : EB.Ok P e where
  zrun := hz
  z := plainElem_bool he false
  inv := fun v x ps h => by
    unfold plainElem at h
    rw [he] at h
    cases v <;> simp [EB] at h
    rw [h.1]; rfl
theorem EI.ok {P : Program} {e : TypeId} (he : P.underlying e = some (.int .i64)) (hz : ∀ w, (zeroValue e).run P w = .ok (.int .i64 0) w) : EI.Ok P e where
  zrun := hz
  z := plainElem_int he (by decide)
  inv := fun v x ps h => by
    obtain ⟨a, rfl, hz, _⟩ := plainElem_int_inv he h
    simp only [EI, Prod.mk.injEq, DataW.lit.injEq, Lit.int.injEq, true_and] at hz
    rw [hz.1]; rfl
theorem ES.ok {P : Program} {e : TypeId} (he : P.underlying e = some .string) (hz : ∀ w, (zeroValue e).run P w = .ok (.string ⟨#[]⟩) w) : ES.Ok P e where
  zrun := hz
  z := plainElem_string he (by decide)
  inv := fun v x ps h => by
    unfold plainElem at h
    rw [he] at h
    cases v <;> simp [ES] at h
    obtain ⟨_, h, _⟩ := h
    simp only [ES]
    rw [← h]

/-- A set. -/
def setF (S : List Str) : Str → Option Bool := fun l => if l ∈ S then some true else none
theorem setF_get (S : List Str) (l : Str) : (setF S l).getD false = decide (l ∈ S) := by
  unfold setF; split <;> simp [*]
theorem setF_put (S : List Str) (x : Str) : updF (setF S) x true = setF (S ++ [x]) := by
  funext l
  unfold updF setF
  by_cases h : l = x
  · subst h; simp
  · simp [h]
theorem setF_nil : (fun _ => none) = setF [] := by funext l; simp [setF]
end

/-! ### OpenQ -/
section
open Go.ChangeShapes Go.WideShapes Go.ChangeAt Go.RowKit Go.Deep

structure Trm.wf (t : Trm) : Prop where
  v : t.v.length ≤ 9223372036854775807
  c : t.c.wf
structure Atm.wf (a : Atm) : Prop where
  rel : a.rel.length ≤ 9223372036854775807
  ts : ∀ t ∈ a.ts, t.wf
structure Cnd.wf (c : Cnd) : Prop where
  v : c.v.length ≤ 9223372036854775807
  op : I64 c.op
  c : c.c.wf
structure Rul.wf (r : Rul) : Prop where
  atoms : ∀ a ∈ r.atoms, a.wf
  conds : ∀ c ∈ r.conds, c.wf
structure Qry.wf (q : Qry) : Prop where
  head : ∀ h ∈ q.head, h.length ≤ 9223372036854775807
  agg : I64 q.agg
  aggVar : q.aggVar.length ≤ 9223372036854775807
  rules : ∀ r ∈ q.rules, r.wf
  order : ∀ k ∈ q.order, k.v.length ≤ 9223372036854775807

instance : Inhabited Trm := ⟨⟨[], default⟩⟩
instance : Inhabited Atm := ⟨⟨false, [], []⟩⟩
instance : Inhabited Cnd := ⟨⟨[], 0, default⟩⟩
instance : Inhabited Rul := ⟨⟨[], []⟩⟩
instance : Inhabited Ky := ⟨⟨[], false⟩⟩

section
variable {H : Type} {enc : TypeId × Value → H} {w : World} {base : Nat} {sp : Nat → Bool} {held : Bool}

/-- A slice opened, whatever its elements. -/
theorem open_gen {α : Type} [Inhabited α] {e t : TypeId} (ht : Tryz.prog.underlying t = some (.slice e)) {k : Nat} (hk : Tryz.prog.cellsOf e = k) (hk0 : 0 < k) (R : α → List Value → Prop)
    (hR : ∀ n cs x, DataW.trod enc Tryz.prog w base sp held n e cs = some x → ∃ u, R u cs) {fuel : Nat} {cs : List Value} {x : DataW H × List MemPlace}
    (h : DataW.trod enc Tryz.prog w base sp held fuel t cs = some x) :
    ∃ (A : Option Addr) (r : List α) (c : Nat), cs = [.slice A r.length c] ∧ r.length ≤ 9223372036854775807 ∧ r.length ≤ c ∧
      (0 < r.length → ∃ b o, A = some ⟨b, o, none⟩ ∧ ∀ i (h : i < r.length), ∃ cs, R r[i] cs ∧ ∀ j u, cs[j]? = some u → w.cell? ⟨b, o + i * k + j, none⟩ = some u) ∧ ∀ u ∈ r, ∃ cs, R u cs := by
  rcases open_slice ht h with ⟨h0, _⟩ | ⟨a', len', cap', m, n, D, Pl, hcs, _, hle, hmx, hm, _, hel⟩
  · exact ⟨none, [], 0, h0, by simp, by simp, by simp, by simp⟩
  · rw [hk] at hel
    have hml : len' ≤ m := by rw [hm]; split <;> omega
    obtain ⟨f, hf⟩ := choose_lt (α := α) (p := fun i v => ∃ cs, R v cs ∧ cs.length = k ∧ ∀ j u, cs[j]? = some u → w.cell? (a'.add (i * k + j)) = some u) (n := len') (fun i hi => by
      obtain ⟨cs', h1, h2⟩ := hel i (by omega)
      obtain ⟨u, hu⟩ := hR _ _ _ h2
      obtain ⟨_, hl, hg⟩ := World.cells?_some h1
      refine ⟨u, cs', hu, hl, fun j y hj => ?_⟩
      have hjk : j < k := by have := (List.getElem?_eq_some_iff.1 hj).1; omega
      have g := hg j hjk
      rw [Go.Deep.add_add] at g
      rw [g]; exact hj)
    refine ⟨some a', (List.range len').map f, cap', by simpa using hcs, ?_, by simpa using hle, ?_, ?_⟩
    · simp only [List.length_map, List.length_range]; unfold maxLen at hmx; omega
    · intro hl
      simp only [List.length_map, List.length_range] at hl
      obtain ⟨cs0, _, hl0, h0⟩ := hf 0 hl
      obtain ⟨u0, hu0⟩ : ∃ u, cs0[0]? = some u := ⟨_, List.getElem?_eq_getElem (by omega)⟩
      have g0 := h0 0 u0 hu0
      obtain ⟨hsp, _⟩ := addr_plain g0
      have hspot := hsp (by omega)
      refine ⟨a'.block, a'.off, by cases a'; simp at hspot; subst hspot; rfl, fun i hi => ?_⟩
      simp only [List.length_map, List.length_range] at hi
      obtain ⟨cs, hr, _, hc⟩ := hf i hi
      simp only [List.getElem_map, List.getElem_range]
      refine ⟨cs, hr, fun j u hj => ?_⟩
      have g := hc j u hj
      rw [(addr_plain g).2, hspot] at g
      simp only [ite_self] at g
      rw [Nat.add_assoc]; exact g
    · intro u hu
      obtain ⟨i, hi, rfl⟩ := List.mem_map.1 hu
      obtain ⟨cs, hr, _⟩ := hf i (List.mem_range.1 hi)
      exact ⟨cs, hr⟩

theorem trod_str {n : Nat} {t : TypeId} (ht : Tryz.prog.underlying t = some .string) {cs : List Value} {x : DataW H × List MemPlace} (h : DataW.trod enc Tryz.prog w base sp held n t cs = some x) :
    ∃ l : Str, l.length ≤ 9223372036854775807 ∧ cs = [.string ⟨l.toArray⟩] := by
  obtain ⟨s, e, _, w2⟩ := DataW.trod_string ht h
  refine ⟨s.data.toList, by unfold maxLen at w2; simpa using w2, ?_⟩
  rw [e]


theorem trod_bool' {n : Nat} {t : TypeId} (ht : Tryz.prog.underlying t = some .bool) {cs : List Value} {x : DataW H × List MemPlace} (h : DataW.trod enc Tryz.prog w base sp held n t cs = some x) : ∃ b : Bool, cs = [.bool b] := by
  obtain ⟨b, e, _⟩ := DataW.trod_bool ht h
  exact ⟨b, e⟩
theorem trod_int' {n : Nat} {t : TypeId} (ht : Tryz.prog.underlying t = some (.int .i64)) {cs : List Value} {x : DataW H × List MemPlace} (h : DataW.trod enc Tryz.prog w base sp held n t cs = some x) : ∃ k : Int, I64 k ∧ cs = [.int .i64 k] := by
  obtain ⟨k, e, _, hw⟩ := DataW.trod_int ht h
  exact ⟨k, i64_of hw, e⟩

def cellsT (t : Trm) : List Value := [.string ⟨t.v.toArray⟩, .int .i64 t.c.k, .int .i64 t.c.n, .string t.c.s]
def cellsC (c : Cnd) : List Value := [.string ⟨c.v.toArray⟩, .int .i64 c.op, .int .i64 c.c.k, .int .i64 c.c.n, .string c.c.s]
def cellsK (k : Ky) : List Value := [.string ⟨k.v.toArray⟩, .bool k.desc]

set_option maxRecDepth 100000 in
theorem trod_Trm (n : Nat) (cs : List Value) (x : DataW H × List MemPlace) (h : DataW.trod enc Tryz.prog w base sp held n 146 cs = some x) : ∃ t : Trm, t.wf ∧ cs = cellsT t := by
  obtain ⟨xs, m, _, _, hcl, hxl, hf⟩ := DataW.trod_struct Tryz.underlying146 h
  have hc : Tryz.prog.cellsOf 146 = 4 := by kernel_rfl
  rw [hc] at hcl
  match cs, hcl, xs, hxl with
  | [c0, c1, c2, c3], _, [y0, y1], _ =>
    have h0 := hf 0 _ rfl
    have h1 := hf 1 _ rfl
    simp only [List.getElem?_cons_zero, List.getElem?_cons_succ] at h0 h1
    obtain ⟨l, hl, e0⟩ := trod_str Tryz.underlying9 h0
    obtain ⟨u, hu, e1⟩ := trod_V h1
    have g0 : [c0] = _ := e0
    clear e0
    have g1 : [c1, c2, c3] = _ := e1
    clear e1
    simp only [List.cons.injEq, and_true] at g0 g1
    obtain ⟨g1, g2, g3⟩ := g1
    subst g0 g1 g2 g3
    exact ⟨⟨l, u⟩, ⟨hl, hu⟩, rfl⟩
set_option maxRecDepth 100000 in
theorem trod_Cnd (n : Nat) (cs : List Value) (x : DataW H × List MemPlace) (h : DataW.trod enc Tryz.prog w base sp held n 115 cs = some x) : ∃ c : Cnd, c.wf ∧ cs = cellsC c := by
  obtain ⟨xs, m, _, _, hcl, hxl, hf⟩ := DataW.trod_struct Tryz.underlying115 h
  have hc : Tryz.prog.cellsOf 115 = 5 := by kernel_rfl
  rw [hc] at hcl
  match cs, hcl, xs, hxl with
  | [c0, c1, c2, c3, c4], _, [y0, y1, y2], _ =>
    have h0 := hf 0 _ rfl
    have h1 := hf 1 _ rfl
    have h2 := hf 2 _ rfl
    simp only [List.getElem?_cons_zero, List.getElem?_cons_succ] at h0 h1 h2
    obtain ⟨l, hl, e0⟩ := trod_str Tryz.underlying9 h0
    obtain ⟨o, ho, e1⟩ := trod_int' Tryz.underlying3 h1
    obtain ⟨u, hu, e2⟩ := trod_V h2
    have g0 : [c0] = _ := e0
    clear e0
    have g1 : [c1] = _ := e1
    clear e1
    have g2 : [c2, c3, c4] = _ := e2
    clear e2
    simp only [List.cons.injEq, and_true] at g0 g1 g2
    obtain ⟨g2, g3, g4⟩ := g2
    subst g0 g1 g2 g3 g4
    exact ⟨⟨l, o, u⟩, ⟨hl, ho, hu⟩, rfl⟩
set_option maxRecDepth 100000 in
theorem trod_Ky (n : Nat) (cs : List Value) (x : DataW H × List MemPlace) (h : DataW.trod enc Tryz.prog w base sp held n 37 cs = some x) : ∃ k : Ky, k.v.length ≤ 9223372036854775807 ∧ cs = cellsK k := by
  obtain ⟨xs, m, _, _, hcl, hxl, hf⟩ := DataW.trod_struct Tryz.underlying37 h
  have hc : Tryz.prog.cellsOf 37 = 2 := by kernel_rfl
  rw [hc] at hcl
  match cs, hcl, xs, hxl with
  | [c0, c1], _, [y0, y1], _ =>
    have h0 := hf 0 _ rfl
    have h1 := hf 1 _ rfl
    simp only [List.getElem?_cons_zero, List.getElem?_cons_succ] at h0 h1
    obtain ⟨l, hl, e0⟩ := trod_str Tryz.underlying9 h0
    obtain ⟨b, e1⟩ := trod_bool' Tryz.underlying4 h1
    have g0 : [c0] = _ := e0
    clear e0
    have g1 : [c1] = _ := e1
    clear e1
    simp only [List.cons.injEq, and_true] at g0 g1
    subst g0 g1
    exact ⟨⟨l, b⟩, hl, rfl⟩

/-- Slices of names, terms, conditions, keys. -/
theorem trod_nms {n : Nat} {t : TypeId} (ht : Tryz.prog.underlying t = some (.slice 9)) {cs : List Value} {x : DataW H × List MemPlace} (h : DataW.trod enc Tryz.prog w base sp held n t cs = some x) :
    ∃ A l c, cs = [.slice A l.length c] ∧ NmsAt w A l ∧ l.length ≤ c ∧ l.length ≤ 9223372036854775807 ∧ ∀ y ∈ l, y.length ≤ 9223372036854775807 := by
  obtain ⟨A, l, c, h1, h2, h3, h4, h5⟩ := open_gen (α := Str) ht (k := 1) (by kernel_rfl) (by decide) (fun u cs => u.length ≤ 9223372036854775807 ∧ cs = [.string ⟨u.toArray⟩]) (fun _ _ _ => trod_str Tryz.underlying9) h
  refine ⟨A, l, c, h1, fun hp => ?_, h3, h2, fun y hy => let ⟨_, hz, _⟩ := h5 y hy; hz⟩
  obtain ⟨b, o, e, hc⟩ := h4 hp
  refine ⟨b, o, e, fun i hi => ?_⟩
  obtain ⟨cs, ⟨_, rfl⟩, hc⟩ := hc i hi
  simpa using hc 0 _ rfl
theorem trod_trms {n : Nat} {t : TypeId} (ht : Tryz.prog.underlying t = some (.slice 146)) {cs : List Value} {x : DataW H × List MemPlace} (h : DataW.trod enc Tryz.prog w base sp held n t cs = some x) :
    ∃ A l c, cs = [.slice A l.length c] ∧ TrmsAt w A l ∧ l.length ≤ c ∧ l.length ≤ 9223372036854775807 ∧ ∀ y ∈ l, y.wf := by
  obtain ⟨A, l, c, h1, h2, h3, h4, h5⟩ := open_gen (α := Trm) ht (k := 4) (by kernel_rfl) (by decide) (fun u cs => u.wf ∧ cs = cellsT u) (fun n cs x => trod_Trm n cs x) h
  refine ⟨A, l, c, h1, fun hp => ?_, h3, h2, fun y hy => let ⟨_, hz, _⟩ := h5 y hy; hz⟩
  obtain ⟨b, o, e, hc⟩ := h4 hp
  refine ⟨b, o, e, fun i hi => ?_⟩
  obtain ⟨cs, ⟨_, rfl⟩, hc⟩ := hc i hi
  exact ⟨by simpa using hc 0 _ rfl, hc 1 _ rfl, hc 2 _ rfl, hc 3 _ rfl⟩
theorem trod_cnds {n : Nat} {t : TypeId} (ht : Tryz.prog.underlying t = some (.slice 115)) {cs : List Value} {x : DataW H × List MemPlace} (h : DataW.trod enc Tryz.prog w base sp held n t cs = some x) :
    ∃ A l c, cs = [.slice A l.length c] ∧ CndsAt w A l ∧ l.length ≤ c ∧ l.length ≤ 9223372036854775807 ∧ ∀ y ∈ l, y.wf := by
  obtain ⟨A, l, c, h1, h2, h3, h4, h5⟩ := open_gen (α := Cnd) ht (k := 5) (by kernel_rfl) (by decide) (fun u cs => u.wf ∧ cs = cellsC u) (fun n cs x => trod_Cnd n cs x) h
  refine ⟨A, l, c, h1, fun hp => ?_, h3, h2, fun y hy => let ⟨_, hz, _⟩ := h5 y hy; hz⟩
  obtain ⟨b, o, e, hc⟩ := h4 hp
  refine ⟨b, o, e, fun i hi => ?_⟩
  obtain ⟨cs, ⟨_, rfl⟩, hc⟩ := hc i hi
  exact ⟨by simpa using hc 0 _ rfl, hc 1 _ rfl, hc 2 _ rfl, hc 3 _ rfl, hc 4 _ rfl⟩
theorem trod_kys {n : Nat} {t : TypeId} (ht : Tryz.prog.underlying t = some (.slice 37)) {cs : List Value} {x : DataW H × List MemPlace} (h : DataW.trod enc Tryz.prog w base sp held n t cs = some x) :
    ∃ A l c, cs = [.slice A l.length c] ∧ KysAt w A l ∧ l.length ≤ c ∧ l.length ≤ 9223372036854775807 ∧ ∀ y ∈ l, y.v.length ≤ 9223372036854775807 := by
  obtain ⟨A, l, c, h1, h2, h3, h4, h5⟩ := open_gen (α := Ky) ht (k := 2) (by kernel_rfl) (by decide) (fun u cs => u.v.length ≤ 9223372036854775807 ∧ cs = cellsK u) (fun n cs x => trod_Ky n cs x) h
  refine ⟨A, l, c, h1, fun hp => ?_, h3, h2, fun y hy => let ⟨_, hz, _⟩ := h5 y hy; hz⟩
  obtain ⟨b, o, e, hc⟩ := h4 hp
  refine ⟨b, o, e, fun i hi => ?_⟩
  obtain ⟨cs, ⟨_, rfl⟩, hc⟩ := hc i hi
  exact ⟨by simpa using hc 0 _ rfl, hc 1 _ rfl⟩

/-- Atoms, rules. -/
def AtmIn (w : World) (a : Atm) (cs : List Value) : Prop := a.wf ∧ ∃ T c, cs = [.bool a.neg, .string ⟨a.rel.toArray⟩, .slice T a.ts.length c] ∧ TrmsAt w T a.ts ∧ a.ts.length ≤ c ∧ a.ts.length ≤ 9223372036854775807
set_option maxRecDepth 100000 in
theorem trod_Atm (n : Nat) (cs : List Value) (x : DataW H × List MemPlace) (h : DataW.trod enc Tryz.prog w base sp held n 111 cs = some x) : ∃ a : Atm, AtmIn w a cs := by
  obtain ⟨xs, m, _, _, hcl, hxl, hf⟩ := DataW.trod_struct Tryz.underlying111 h
  have hc : Tryz.prog.cellsOf 111 = 3 := by kernel_rfl
  rw [hc] at hcl
  match cs, hcl, xs, hxl with
  | [c0, c1, c2], _, [y0, y1, y2], _ =>
    have h0 := hf 0 _ rfl
    have h1 := hf 1 _ rfl
    have h2 := hf 2 _ rfl
    simp only [List.getElem?_cons_zero, List.getElem?_cons_succ] at h0 h1 h2
    obtain ⟨b, e0⟩ := trod_bool' Tryz.underlying4 h0
    obtain ⟨l, hl, e1⟩ := trod_str Tryz.underlying9 h1
    obtain ⟨A, ts, c, e2, k1, k2, k3, k4⟩ := trod_trms Tryz.underlying109 h2
    have g0 : [c0] = _ := e0
    clear e0
    have g1 : [c1] = _ := e1
    clear e1
    have g2 : [c2] = _ := e2
    clear e2
    simp only [List.cons.injEq, and_true] at g0 g1 g2
    subst g0 g1 g2
    exact ⟨⟨b, l, ts⟩, ⟨hl, k4⟩, A, c, rfl, k1, k2, k3⟩
theorem trod_atms {n : Nat} {t : TypeId} (ht : Tryz.prog.underlying t = some (.slice 111)) {cs : List Value} {x : DataW H × List MemPlace} (h : DataW.trod enc Tryz.prog w base sp held n t cs = some x) :
    ∃ A l c, cs = [.slice A l.length c] ∧ AtmsAt w A l ∧ l.length ≤ c ∧ l.length ≤ 9223372036854775807 ∧ ∀ y ∈ l, y.wf := by
  obtain ⟨A, l, c, h1, h2, h3, h4, h5⟩ := open_gen (α := Atm) ht (k := 3) (by kernel_rfl) (by decide) (AtmIn w) (fun n cs x => trod_Atm n cs x) h
  refine ⟨A, l, c, h1, fun hp => ?_, h3, h2, fun y hy => let ⟨_, hz, _⟩ := h5 y hy; hz⟩
  obtain ⟨b, o, e, hc⟩ := h4 hp
  refine ⟨b, o, e, fun i hi => ?_⟩
  obtain ⟨cs, ⟨_, T, c', rfl, k⟩, hc⟩ := hc i hi
  exact ⟨T, c', by simpa using hc 0 _ rfl, hc 1 _ rfl, hc 2 _ rfl, k⟩
def RulIn (w : World) (r : Rul) (cs : List Value) : Prop := r.wf ∧ ∃ T c T' c', cs = [.slice T r.atoms.length c, .slice T' r.conds.length c'] ∧ AtmsAt w T r.atoms ∧ CndsAt w T' r.conds ∧ r.atoms.length ≤ c ∧ r.conds.length ≤ c' ∧ r.atoms.length ≤ 9223372036854775807 ∧ r.conds.length ≤ 9223372036854775807
set_option maxRecDepth 100000 in
theorem trod_Rul (n : Nat) (cs : List Value) (x : DataW H × List MemPlace) (h : DataW.trod enc Tryz.prog w base sp held n 42 cs = some x) : ∃ r : Rul, RulIn w r cs := by
  obtain ⟨xs, m, _, _, hcl, hxl, hf⟩ := DataW.trod_struct Tryz.underlying42 h
  have hc : Tryz.prog.cellsOf 42 = 2 := by kernel_rfl
  rw [hc] at hcl
  match cs, hcl, xs, hxl with
  | [c0, c1], _, [y0, y1], _ =>
    have h0 := hf 0 _ rfl
    have h1 := hf 1 _ rfl
    simp only [List.getElem?_cons_zero, List.getElem?_cons_succ] at h0 h1
    obtain ⟨A, ats, c, e0, k1, k2, k3, k4⟩ := trod_atms Tryz.underlying39 h0
    obtain ⟨A', cnds, c', e1, k1', k2', k3', k4'⟩ := trod_cnds Tryz.underlying40 h1
    have g0 : [c0] = _ := e0
    clear e0
    have g1 : [c1] = _ := e1
    clear e1
    simp only [List.cons.injEq, and_true] at g0 g1
    subst g0 g1
    exact ⟨⟨ats, cnds⟩, ⟨k4, k4'⟩, A, c, A', c', rfl, k1, k1', k2, k2', k3, k3'⟩
theorem trod_ruls {n : Nat} {t : TypeId} (ht : Tryz.prog.underlying t = some (.slice 42)) {cs : List Value} {x : DataW H × List MemPlace} (h : DataW.trod enc Tryz.prog w base sp held n t cs = some x) :
    ∃ A l c, cs = [.slice A l.length c] ∧ RulsAt w A l ∧ l.length ≤ c ∧ l.length ≤ 9223372036854775807 ∧ ∀ y ∈ l, y.wf := by
  obtain ⟨A, l, c, h1, h2, h3, h4, h5⟩ := open_gen (α := Rul) ht (k := 2) (by kernel_rfl) (by decide) (RulIn w) (fun n cs x => trod_Rul n cs x) h
  refine ⟨A, l, c, h1, fun hp => ?_, h3, h2, fun y hy => let ⟨_, hz, _⟩ := h5 y hy; hz⟩
  obtain ⟨b, o, e, hc⟩ := h4 hp
  refine ⟨b, o, e, fun i hi => ?_⟩
  obtain ⟨cs, ⟨_, T, c', T', c'', rfl, k⟩, hc⟩ := hc i hi
  exact ⟨T, c', T', c'', by simpa using hc 0 _ rfl, hc 1 _ rfl, k⟩

/-- A query's cells. -/
structure QryIn (w : World) (q : Qry) (H R O : Option Addr) (ch cr co : Nat) : Prop where
  head : NmsAt w H q.head
  rules : RulsAt w R q.rules
  order : KysAt w O q.order
  lh : q.head.length ≤ ch
  lr : q.rules.length ≤ cr
  lo : q.order.length ≤ co
  mh : q.head.length ≤ 9223372036854775807
  mr : q.rules.length ≤ 9223372036854775807
  mo : q.order.length ≤ 9223372036854775807
theorem QryIn.below {w w' : World} {q : Qry} {H R O : Option Addr} {ch cr co : Nat} (h : QryIn w q H R O ch cr co) (hb : Below w.heap.size w w') : QryIn w' q H R O ch cr co :=
  ⟨h.head.below hb, h.rules.below hb, h.order.below hb, h.lh, h.lr, h.lo, h.mh, h.mr, h.mo⟩

set_option maxRecDepth 100000 in
theorem trod_Qry (n : Nat) (cs : List Value) (x : DataW H × List MemPlace) (h : DataW.trod enc Tryz.prog w base sp held n 27 cs = some x) :
    ∃ (q : Qry) (A R O : Option Addr) (ch cr co : Nat), q.wf ∧ cs = [.slice A q.head.length ch, .int .i64 q.agg, .string ⟨q.aggVar.toArray⟩, .slice R q.rules.length cr, .slice O q.order.length co] ∧ QryIn w q A R O ch cr co := by
  obtain ⟨xs, m, _, _, hcl, hxl, hf⟩ := DataW.trod_struct Tryz.underlying27 h
  have hc : Tryz.prog.cellsOf 27 = 5 := by kernel_rfl
  rw [hc] at hcl
  match cs, hcl, xs, hxl with
  | [c0, c1, c2, c3, c4], _, [y0, y1, y2, y3, y4], _ =>
    have h0 := hf 0 _ rfl
    have h1 := hf 1 _ rfl
    have h2 := hf 2 _ rfl
    have h3 := hf 3 _ rfl
    have h4 := hf 4 _ rfl
    simp only [List.getElem?_cons_zero, List.getElem?_cons_succ] at h0 h1 h2 h3 h4
    obtain ⟨A, hd, ch, e0, a1, a2, a3, a4⟩ := trod_nms Tryz.underlying23 h0
    obtain ⟨g, hg, e1⟩ := trod_int' Tryz.underlying3 h1
    obtain ⟨v, hv, e2⟩ := trod_str Tryz.underlying9 h2
    obtain ⟨R, rs, cr, e3, b1, b2, b3, b4⟩ := trod_ruls Tryz.underlying24 h3
    obtain ⟨O, os, co, e4, d1, d2, d3, d4⟩ := trod_kys Tryz.underlying25 h4
    have g0 : [c0] = _ := e0
    clear e0
    have g1 : [c1] = _ := e1
    clear e1
    have g2 : [c2] = _ := e2
    clear e2
    have g3 : [c3] = _ := e3
    clear e3
    have g4 : [c4] = _ := e4
    clear e4
    simp only [List.cons.injEq, and_true] at g0 g1 g2 g3 g4
    subst g0 g1 g2 g3 g4
    exact ⟨⟨hd, g, v, rs, os⟩, A, R, O, ch, cr, co, ⟨a4, hg, hv, b4, d4⟩, rfl, a1, b1, d1, a2, b2, d2, a3, b3, d3⟩
end
/-- A query as a value. -/
abbrev qryV (q : Qry) (A R O : Option Addr) (ch cr co : Nat) : Value := .agg #[.slice A q.head.length ch, .int .i64 q.agg, .string ⟨q.aggVar.toArray⟩, .slice R q.rules.length cr, .slice O q.order.length co]
set_option maxRecDepth 100000 in
theorem open_qry {H : Type} {enc : TypeId × Value → H} {w W : World} {base b0 : Nat} {sp : Nat → Bool} {held : Bool} {r : Reach} {n : Nat} {v : Value} {x : DataW H × List MemPlace} (hok : Value.okWide Tryz.prog W r b0 27 v)
    (h : DataW.trod enc Tryz.prog w base sp held n 27 v.cells.toList = some x) : ∃ (q : Qry) (A R O : Option Addr) (ch cr co : Nat), q.wf ∧ v = qryV q A R O ch cr co ∧ QryIn w q A R O ch cr co := by
  obtain ⟨cs, rfl, _⟩ := okWide_struct Tryz.underlying27 hok
  obtain ⟨q, A, R, O, ch, cr, co, hq, hc, hi⟩ := trod_Qry n _ _ h
  obtain ⟨cs⟩ := cs
  have : cs = [.slice A q.head.length ch, .int .i64 q.agg, .string ⟨q.aggVar.toArray⟩, .slice R q.rules.length cr, .slice O q.order.length co] := hc
  subst this
  exact ⟨q, A, R, O, ch, cr, co, hq, rfl, hi⟩
end
end Go.Proofs.YtnbacdmlaedppaaGreatDoor
