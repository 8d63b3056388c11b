/-
  PARTS of a claim, merged by segs.py: Ast2, OpenQ, Ast5.
-/
import Derived.Test.YtjhnopnppimnhaaGreatDoorZ04
import Derived.Test.YtjhnopnppimnhaaGreatDoorZ07
import Derived.Test.YtjhnopnppimnhaaGreatDoorProg
import Derived.Deep.Slices
import Derived.Lib.SmallJoins
import Derived.Tactics
namespace Go.Proofs.YtjhnopnppimnhaaGreatDoor

/-! ### Ast2 -/
section
open Go.RowKit

/-- Strings. -/
def NmsAt (w : World) (A : Option Addr) (l : List Str) : Prop :=
  0 < l.length → ∃ b o, A = some ⟨b, o, none⟩ ∧ ∀ i (h : i < l.length), w.cell? ⟨b, o + i, none⟩ = some (.string ⟨l[i].toArray⟩)
def TrmsAt (w : World) (A : Option Addr) (l : List Trm) : Prop :=
  0 < l.length → ∃ b o, A = some ⟨b, o, none⟩ ∧ ∀ i (h : i < l.length), w.cell? ⟨b, o + i * 4, none⟩ = some (.string ⟨l[i].v.toArray⟩) ∧ w.cell? ⟨b, o + i * 4 + 1, none⟩ = some (.int .i64 l[i].c.k) ∧ w.cell? ⟨b, o + i * 4 + 2, none⟩ = some (.int .i64 l[i].c.n) ∧ w.cell? ⟨b, o + i * 4 + 3, none⟩ = some (.string l[i].c.s)
def AtmsAt (w : World) (A : Option Addr) (l : List Atm) : Prop :=
  0 < l.length → ∃ b o, A = some ⟨b, o, none⟩ ∧ ∀ i (h : i < l.length), ∃ T c, w.cell? ⟨b, o + i * 3, none⟩ = some (.bool l[i].neg) ∧ w.cell? ⟨b, o + i * 3 + 1, none⟩ = some (.string ⟨l[i].rel.toArray⟩) ∧ w.cell? ⟨b, o + i * 3 + 2, none⟩ = some (.slice T l[i].ts.length c) ∧ TrmsAt w T l[i].ts ∧ l[i].ts.length ≤ c ∧ l[i].ts.length ≤ 9223372036854775807
def CndsAt (w : World) (A : Option Addr) (l : List Cnd) : Prop :=
  0 < l.length → ∃ b o, A = some ⟨b, o, none⟩ ∧ ∀ i (h : i < l.length), w.cell? ⟨b, o + i * 5, none⟩ = some (.string ⟨l[i].v.toArray⟩) ∧ w.cell? ⟨b, o + i * 5 + 1, none⟩ = some (.int .i64 l[i].op) ∧ w.cell? ⟨b, o + i * 5 + 2, none⟩ = some (.int .i64 l[i].c.k) ∧ w.cell? ⟨b, o + i * 5 + 3, none⟩ = some (.int .i64 l[i].c.n) ∧ w.cell? ⟨b, o + i * 5 + 4, none⟩ = some (.string l[i].c.s)
def KysAt (w : World) (A : Option Addr) (l : List Ky) : Prop :=
  0 < l.length → ∃ b o, A = some ⟨b, o, none⟩ ∧ ∀ i (h : i < l.length), w.cell? ⟨b, o + i * 2, none⟩ = some (.string ⟨l[i].v.toArray⟩) ∧ w.cell? ⟨b, o + i * 2 + 1, none⟩ = some (.bool l[i].desc)
def RulsAt (w : World) (A : Option Addr) (l : List Rul) : Prop :=
  0 < l.length → ∃ b o, A = some ⟨b, o, none⟩ ∧ ∀ i (h : i < l.length), ∃ T c T' c', w.cell? ⟨b, o + i * 2, none⟩ = some (.slice T l[i].atoms.length c) ∧ w.cell? ⟨b, o + i * 2 + 1, none⟩ = some (.slice T' l[i].conds.length c') ∧ AtmsAt w T l[i].atoms ∧ CndsAt w T' l[i].conds ∧ l[i].atoms.length ≤ c ∧ l[i].conds.length ≤ c' ∧ l[i].atoms.length ≤ 9223372036854775807 ∧ l[i].conds.length ≤ 9223372036854775807

section
variable {w w' : World} {A : Option Addr}
theorem NmsAt.below {l : List Str} (h : NmsAt w A l) (hb : Below w.heap.size w w') : NmsAt w' A l := fun hp => by
  obtain ⟨b, o, e, hc⟩ := h hp
  exact ⟨b, o, e, fun i hi => cell_keep hb (hc i hi)⟩
theorem TrmsAt.below {l : List Trm} (h : TrmsAt w A l) (hb : Below w.heap.size w w') : TrmsAt w' A l := fun hp => by
  obtain ⟨b, o, e, hc⟩ := h hp
  refine ⟨b, o, e, fun i hi => ?_⟩
  obtain ⟨h0, h1, h2, h3⟩ := hc i hi
  exact ⟨cell_keep hb h0, cell_keep hb h1, cell_keep hb h2, cell_keep hb h3⟩
theorem AtmsAt.below {l : List Atm} (h : AtmsAt w A l) (hb : Below w.heap.size w w') : AtmsAt w' A l := fun hp => by
  obtain ⟨b, o, e, hc⟩ := h hp
  refine ⟨b, o, e, fun i hi => ?_⟩
  obtain ⟨T, c, h0, h1, h2, h3, h4, h5⟩ := hc i hi
  exact ⟨T, c, cell_keep hb h0, cell_keep hb h1, cell_keep hb h2, h3.below hb, h4, h5⟩
theorem CndsAt.below {l : List Cnd} (h : CndsAt w A l) (hb : Below w.heap.size w w') : CndsAt w' A l := fun hp => by
  obtain ⟨b, o, e, hc⟩ := h hp
  refine ⟨b, o, e, fun i hi => ?_⟩
  obtain ⟨h0, h1, h2, h3, h4⟩ := hc i hi
  exact ⟨cell_keep hb h0, cell_keep hb h1, cell_keep hb h2, cell_keep hb h3, cell_keep hb h4⟩
theorem KysAt.below {l : List Ky} (h : KysAt w A l) (hb : Below w.heap.size w w') : KysAt w' A l := fun hp => by
  obtain ⟨b, o, e, hc⟩ := h hp
  refine ⟨b, o, e, fun i hi => ?_⟩
  obtain ⟨h0, h1⟩ := hc i hi
  exact ⟨cell_keep hb h0, cell_keep hb h1⟩
theorem RulsAt.below {l : List Rul} (h : RulsAt w A l) (hb : Below w.heap.size w w') : RulsAt w' A l := fun hp => by
  obtain ⟨b, o, e, hc⟩ := h hp
  refine ⟨b, o, e, fun i hi => ?_⟩
  obtain ⟨T, c, T', c', h0, h1, h2, h3, h4⟩ := hc i hi
  exact ⟨T, c, T', c', cell_keep hb h0, cell_keep hb h1, h2.below hb, h3.below hb, h4⟩
theorem NmsAt.nil : NmsAt w A [] := fun h => absurd h (by simp)
theorem TrmsAt.nil : TrmsAt w A [] := fun h => absurd h (by simp)
theorem AtmsAt.nil : AtmsAt w A [] := fun h => absurd h (by simp)
theorem CndsAt.nil : CndsAt w A [] := fun h => absurd h (by simp)
theorem KysAt.nil : KysAt w A [] := fun h => absurd h (by simp)
theorem RulsAt.nil : RulsAt w A [] := fun h => absurd h (by simp)
end
end

/-! ### OpenQ -/
section
open Go.ChangeShapes Go.WideShapes Go.ChangeAt Go.RowKit Go.Deep

structure Trm.wf (t : Trm) : Prop where
  v : t.v.length ≤ 9223372036854775807
  c : t.c.wf
structure Atm.wf (a : Atm) : Prop where
  rel : a.rel.length ≤ 9223372036854775807
  ts : ∀ t ∈ a.ts, t.wf
structure Cnd.wf (c : Cnd) : Prop where
  v : c.v.length ≤ 9223372036854775807
  op : I64 c.op
  c : c.c.wf
structure Rul.wf (r : Rul) : Prop where
  atoms : ∀ a ∈ r.atoms, a.wf
  conds : ∀ c ∈ r.conds, c.wf
structure Qry.wf (q : Qry) : Prop where
  head : ∀ h ∈ q.head, h.length ≤ 9223372036854775807
  agg : I64 q.agg
  aggVar : q.aggVar.length ≤ 9223372036854775807
  rules : ∀ r ∈ q.rules, r.wf
  order : ∀ k ∈ q.order, k.v.length ≤ 9223372036854775807

instance : Inhabited Trm := ⟨⟨[], default⟩⟩
instance : Inhabited Atm := ⟨⟨false, [], []⟩⟩
instance : Inhabited Cnd := ⟨⟨[], 0, default⟩⟩
instance : Inhabited Rul := ⟨⟨[], []⟩⟩
instance : Inhabited Ky := ⟨⟨[], false⟩⟩

section
variable {H : Type} {enc : TypeId × Value → H} {w : World} {base : Nat} {sp : Nat → Bool} {held : Bool}

/-- A slice opened, whatever its elements. -/
theorem open_gen {α : Type} [Inhabited α] {e t : TypeId} (ht : Tryz.prog.underlying t = some (.slice e)) {k : Nat} (hk : Tryz.prog.cellsOf e = k) (hk0 : 0 < k) (R : α → List Value → Prop)
    (hR : ∀ n cs x, DataW.trod enc Tryz.prog w base sp held n e cs = some x → ∃ u, R u cs) {fuel : Nat} {cs : List Value} {x : DataW H × List MemPlace}
    (h : DataW.trod enc Tryz.prog w base sp held fuel t cs = some x) :
    ∃ (A : Option Addr) (r : List α) (c : Nat), cs = [.slice A r.length c] ∧ r.length ≤ 9223372036854775807 ∧ r.length ≤ c ∧
      (0 < r.length → ∃ b o, A = some ⟨b, o, none⟩ ∧ ∀ i (h : i < r.length), ∃ cs, R r[i] cs ∧ ∀ j u, cs[j]? = some u → w.cell? ⟨b, o + i * k + j, none⟩ = some u) ∧ ∀ u ∈ r, ∃ cs, R u cs := by
  rcases open_slice ht h with ⟨h0, _⟩ | ⟨a', len', cap', m, n, D, Pl, hcs, _, hle, hmx, hm, _, hel⟩
  · exact ⟨none, [], 0, h0, by simp, by simp, by simp, by simp⟩
  · rw [hk] at hel
    have hml : len' ≤ m := by rw [hm]; split <;> omega
    obtain ⟨f, hf⟩ := choose_lt (α := α) (p := fun i v => ∃ cs, R v cs ∧ cs.length = k ∧ ∀ j u, cs[j]? = some u → w.cell? (a'.add (i * k + j)) = some u) (n := len') (fun i hi => by
      obtain ⟨cs', h1, h2⟩ := hel i (by omega)
      obtain ⟨u, hu⟩ := hR _ _ _ h2
      obtain ⟨_, hl, hg⟩ := World.cells?_some h1
      refine ⟨u, cs', hu, hl, fun j y hj => ?_⟩
      have hjk : j < k := by have := (List.getElem?_eq_some_iff.1 hj).1; omega
      have g := hg j hjk
      rw [Go.Deep.add_add] at g
      rw [g]; exact hj)
    refine ⟨some a', (List.range len').map f, cap', by simpa using hcs, ?_, by simpa using hle, ?_, ?_⟩
    · simp only [List.length_map, List.length_range]; unfold maxLen at hmx; omega
    · intro hl
      simp only [List.length_map, List.length_range] at hl
      obtain ⟨cs0, _, hl0, h0⟩ := hf 0 hl
      obtain ⟨u0, hu0⟩ : ∃ u, cs0[0]? = some u := ⟨_, List.getElem?_eq_getElem (by omega)⟩
      have g0 := h0 0 u0 hu0
      obtain ⟨hsp, _⟩ := addr_plain g0
      have hspot := hsp (by omega)
      refine ⟨a'.block, a'.off, by cases a'; simp at hspot; subst hspot; rfl, fun i hi => ?_⟩
      simp only [List.length_map, List.length_range] at hi
      obtain ⟨cs, hr, _, hc⟩ := hf i hi
      simp only [List.getElem_map, List.getElem_range]
      refine ⟨cs, hr, fun j u hj => ?_⟩
      have g := hc j u hj
      rw [(addr_plain g).2, hspot] at g
      simp only [ite_self] at g
      rw [Nat.add_assoc]; exact g
    · intro u hu
      obtain ⟨i, hi, rfl⟩ := List.mem_map.1 hu
      obtain ⟨cs, hr, _⟩ := hf i (List.mem_range.1 hi)
      exact ⟨cs, hr⟩

theorem trod_str {n : Nat} {t : TypeId} (ht : Tryz.prog.underlying t = some .string) {cs : List Value} {x : DataW H × List MemPlace} (h : DataW.trod enc Tryz.prog w base sp held n t cs = some x) :
    ∃ l : Str, l.length ≤ 9223372036854775807 ∧ cs = [.string ⟨l.toArray⟩] := by
  obtain ⟨s, e, _, w2⟩ := DataW.trod_string ht h
  refine ⟨s.data.toList, by unfold maxLen at w2; simpa using w2, ?_⟩
  rw [e]


theorem trod_bool' {n : Nat} {t : TypeId} (ht : Tryz.prog.underlying t = some .bool) {cs : List Value} {x : DataW H × List MemPlace} (h : DataW.trod enc Tryz.prog w base sp held n t cs = some x) : ∃ b : Bool, cs = [.bool b] := by
  obtain ⟨b, e, _⟩ := DataW.trod_bool ht h
  exact ⟨b, e⟩
theorem trod_int' {n : Nat} {t : TypeId} (ht : Tryz.prog.underlying t = some (.int .i64)) {cs : List Value} {x : DataW H × List MemPlace} (h : DataW.trod enc Tryz.prog w base sp held n t cs = some x) : ∃ k : Int, I64 k ∧ cs = [.int .i64 k] := by
  obtain ⟨k, e, _, hw⟩ := DataW.trod_int ht h
  exact ⟨k, i64_of hw, e⟩

def cellsT (t : Trm) : List Value := [.string ⟨t.v.toArray⟩, .int .i64 t.c.k, .int .i64 t.c.n, .string t.c.s]
def cellsC (c : Cnd) : List Value := [.string ⟨c.v.toArray⟩, .int .i64 c.op, .int .i64 c.c.k, .int .i64 c.c.n, .string c.c.s]
def cellsK (k : Ky) : List Value := [.string ⟨k.v.toArray⟩, .bool k.desc]

set_option maxRecDepth 100000 in
theorem trod_Trm (n : Nat) (cs : List Value) (x : DataW H × List MemPlace) (h : DataW.trod enc Tryz.prog w base sp held n 201 cs = some x) : ∃ t : Trm, t.wf ∧ cs = cellsT t := by
  obtain ⟨xs, m, _, _, hcl, hxl, hf⟩ := DataW.trod_struct Tryz.underlying201 h
  have hc : Tryz.prog.cellsOf 201 = 4 := by kernel_rfl
  rw [hc] at hcl
  match cs, hcl, xs, hxl with
  | [c0, c1, c2, c3], _, [y0, y1], _ =>
    have h0 := hf 0 _ rfl
    have h1 := hf 1 _ rfl
    simp only [List.getElem?_cons_zero, List.getElem?_cons_succ] at h0 h1
    obtain ⟨l, hl, e0⟩ := trod_str Tryz.underlying9 h0
    obtain ⟨u, hu, e1⟩ := trod_V h1
    have g0 : [c0] = _ := e0
    clear e0
    have g1 : [c1, c2, c3] = _ := e1
    clear e1
    simp only [List.cons.injEq, and_true] at g0 g1
    obtain ⟨g1, g2, g3⟩ := g1
    subst g0 g1 g2 g3
    exact ⟨⟨l, u⟩, ⟨hl, hu⟩, rfl⟩
set_option maxRecDepth 100000 in
theorem trod_Cnd (n : Nat) (cs : List Value) (x : DataW H × List MemPlace) (h : DataW.trod enc Tryz.prog w base sp held n 192 cs = some x) : ∃ c : Cnd, c.wf ∧ cs = cellsC c := by
  obtain ⟨xs, m, _, _, hcl, hxl, hf⟩ := DataW.trod_struct Tryz.underlying192 h
  have hc : Tryz.prog.cellsOf 192 = 5 := by kernel_rfl
  rw [hc] at hcl
  match cs, hcl, xs, hxl with
  | [c0, c1, c2, c3, c4], _, [y0, y1, y2], _ =>
    have h0 := hf 0 _ rfl
    have h1 := hf 1 _ rfl
    have h2 := hf 2 _ rfl
    simp only [List.getElem?_cons_zero, List.getElem?_cons_succ] at h0 h1 h2
    obtain ⟨l, hl, e0⟩ := trod_str Tryz.underlying9 h0
    obtain ⟨o, ho, e1⟩ := trod_int' Tryz.underlying3 h1
    obtain ⟨u, hu, e2⟩ := trod_V h2
    have g0 : [c0] = _ := e0
    clear e0
    have g1 : [c1] = _ := e1
    clear e1
    have g2 : [c2, c3, c4] = _ := e2
    clear e2
    simp only [List.cons.injEq, and_true] at g0 g1 g2
    obtain ⟨g2, g3, g4⟩ := g2
    subst g0 g1 g2 g3 g4
    exact ⟨⟨l, o, u⟩, ⟨hl, ho, hu⟩, rfl⟩
set_option maxRecDepth 100000 in
theorem trod_Ky (n : Nat) (cs : List Value) (x : DataW H × List MemPlace) (h : DataW.trod enc Tryz.prog w base sp held n 147 cs = some x) : ∃ k : Ky, k.v.length ≤ 9223372036854775807 ∧ cs = cellsK k := by
  obtain ⟨xs, m, _, _, hcl, hxl, hf⟩ := DataW.trod_struct Tryz.underlying147 h
  have hc : Tryz.prog.cellsOf 147 = 2 := by kernel_rfl
  rw [hc] at hcl
  match cs, hcl, xs, hxl with
  | [c0, c1], _, [y0, y1], _ =>
    have h0 := hf 0 _ rfl
    have h1 := hf 1 _ rfl
    simp only [List.getElem?_cons_zero, List.getElem?_cons_succ] at h0 h1
    obtain ⟨l, hl, e0⟩ := trod_str Tryz.underlying9 h0
    obtain ⟨b, e1⟩ := trod_bool' Tryz.underlying4 h1
    have g0 : [c0] = _ := e0
    clear e0
    have g1 : [c1] = _ := e1
    clear e1
    simp only [List.cons.injEq, and_true] at g0 g1
    subst g0 g1
    exact ⟨⟨l, b⟩, hl, rfl⟩

/-- Slices of names, terms, conditions, keys. -/
theorem trod_nms {n : Nat} {t : TypeId} (ht : Tryz.prog.underlying t = some (.slice 9)) {cs : List Value} {x : DataW H × List MemPlace} (h : DataW.trod enc Tryz.prog w base sp held n t cs = some x) :
    ∃ A l c, cs = [.slice A l.length c] ∧ NmsAt w A l ∧ l.length ≤ c ∧ l.length ≤ 9223372036854775807 ∧ ∀ y ∈ l, y.length ≤ 9223372036854775807 := by
  obtain ⟨A, l, c, h1, h2, h3, h4, h5⟩ := open_gen (α := Str) ht (k := 1) (by kernel_rfl) (by decide) (fun u cs => u.length ≤ 9223372036854775807 ∧ cs = [.string ⟨u.toArray⟩]) (fun _ _ _ => trod_str Tryz.underlying9) h
  refine ⟨A, l, c, h1, fun hp => ?_, h3, h2, fun y hy => let ⟨_, hz, _⟩ := h5 y hy; hz⟩
  obtain ⟨b, o, e, hc⟩ := h4 hp
  refine ⟨b, o, e, fun i hi => ?_⟩
  obtain ⟨cs, ⟨_, rfl⟩, hc⟩ := hc i hi
  simpa using hc 0 _ rfl
theorem trod_trms {n : Nat} {t : TypeId} (ht : Tryz.prog.underlying t = some (.slice 201)) {cs : List Value} {x : DataW H × List MemPlace} (h : DataW.trod enc Tryz.prog w base sp held n t cs = some x) :
    ∃ A l c, cs = [.slice A l.length c] ∧ TrmsAt w A l ∧ l.length ≤ c ∧ l.length ≤ 9223372036854775807 ∧ ∀ y ∈ l, y.wf := by
  obtain ⟨A, l, c, h1, h2, h3, h4, h5⟩ := open_gen (α := Trm) ht (k := 4) (by kernel_rfl) (by decide) (fun u cs => u.wf ∧ cs = cellsT u) (fun n cs x => trod_Trm n cs x) h
  refine ⟨A, l, c, h1, fun hp => ?_, h3, h2, fun y hy => let ⟨_, hz, _⟩ := h5 y hy; hz⟩
  obtain ⟨b, o, e, hc⟩ := h4 hp
  refine ⟨b, o, e, fun i hi => ?_⟩
  obtain ⟨cs, ⟨_, rfl⟩, hc⟩ := hc i hi
  exact ⟨by simpa using hc 0 _ rfl, hc 1 _ rfl, hc 2 _ rfl, hc 3 _ rfl⟩
theorem trod_cnds {n : Nat} {t : TypeId} (ht : Tryz.prog.underlying t = some (.slice 192)) {cs : List Value} {x : DataW H × List MemPlace} (h : DataW.trod enc Tryz.prog w base sp held n t cs = some x) :
    ∃ A l c, cs = [.slice A l.length c] ∧ CndsAt w A l ∧ l.length ≤ c ∧ l.length ≤ 9223372036854775807 ∧ ∀ y ∈ l, y.wf := by
  obtain ⟨A, l, c, h1, h2, h3, h4, h5⟩ := open_gen (α := Cnd) ht (k := 5) (by kernel_rfl) (by decide) (fun u cs => u.wf ∧ cs = cellsC u) (fun n cs x => trod_Cnd n cs x) h
  refine ⟨A, l, c, h1, fun hp => ?_, h3, h2, fun y hy => let ⟨_, hz, _⟩ := h5 y hy; hz⟩
  obtain ⟨b, o, e, hc⟩ := h4 hp
  refine ⟨b, o, e, fun i hi => ?_⟩
  obtain ⟨cs, ⟨_, rfl⟩, hc⟩ := hc i hi
  exact ⟨by simpa using hc 0 _ rfl, hc 1 _ rfl, hc 2 _ rfl, hc 3 _ rfl, hc 4 _ rfl⟩
theorem trod_kys {n : Nat} {t : TypeId} (ht : Tryz.prog.underlying t = some (.slice 147)) {cs : List Value} {x : DataW H × List MemPlace} (h : DataW.trod enc Tryz.prog w base sp held n t cs = some x) :
    ∃ A l c, cs = [.slice A l.length c] ∧ KysAt w A l ∧ l.length ≤ c ∧ l.length ≤ 9223372036854775807 ∧ ∀ y ∈ l, y.v.length ≤ 9223372036854775807 := by
  obtain ⟨A, l, c, h1, h2, h3, h4, h5⟩ := open_gen (α := Ky) ht (k := 2) (by kernel_rfl) (by decide) (fun u cs => u.v.length ≤ 9223372036854775807 ∧ cs = cellsK u) (fun n cs x => trod_Ky n cs x) h
  refine ⟨A, l, c, h1, fun hp => ?_, h3, h2, fun y hy => let ⟨_, hz, _⟩ := h5 y hy; hz⟩
  obtain ⟨b, o, e, hc⟩ := h4 hp
  refine ⟨b, o, e, fun i hi => ?_⟩
  obtain ⟨cs, ⟨_, rfl⟩, hc⟩ := hc i hi
  exact ⟨by simpa using hc 0 _ rfl, hc 1 _ rfl⟩

/-- Atoms, rules. -/
def AtmIn (w : World) (a : Atm) (cs : List Value) : Prop := a.wf ∧ ∃ T c, cs = [.bool a.neg, .string ⟨a.rel.toArray⟩, .slice T a.ts.length c] ∧ TrmsAt w T a.ts ∧ a.ts.length ≤ c ∧ a.ts.length ≤ 9223372036854775807
set_option maxRecDepth 100000 in
theorem trod_Atm (n : Nat) (cs : List Value) (x : DataW H × List MemPlace) (h : DataW.trod enc Tryz.prog w base sp held n 188 cs = some x) : ∃ a : Atm, AtmIn w a cs := by
  obtain ⟨xs, m, _, _, hcl, hxl, hf⟩ := DataW.trod_struct Tryz.underlying188 h
  have hc : Tryz.prog.cellsOf 188 = 3 := by kernel_rfl
  rw [hc] at hcl
  match cs, hcl, xs, hxl with
  | [c0, c1, c2], _, [y0, y1, y2], _ =>
    have h0 := hf 0 _ rfl
    have h1 := hf 1 _ rfl
    have h2 := hf 2 _ rfl
    simp only [List.getElem?_cons_zero, List.getElem?_cons_succ] at h0 h1 h2
    obtain ⟨b, e0⟩ := trod_bool' Tryz.underlying4 h0
    obtain ⟨l, hl, e1⟩ := trod_str Tryz.underlying9 h1
    obtain ⟨A, ts, c, e2, k1, k2, k3, k4⟩ := trod_trms Tryz.underlying186 h2
    have g0 : [c0] = _ := e0
    clear e0
    have g1 : [c1] = _ := e1
    clear e1
    have g2 : [c2] = _ := e2
    clear e2
    simp only [List.cons.injEq, and_true] at g0 g1 g2
    subst g0 g1 g2
    exact ⟨⟨b, l, ts⟩, ⟨hl, k4⟩, A, c, rfl, k1, k2, k3⟩
theorem trod_atms {n : Nat} {t : TypeId} (ht : Tryz.prog.underlying t = some (.slice 188)) {cs : List Value} {x : DataW H × List MemPlace} (h : DataW.trod enc Tryz.prog w base sp held n t cs = some x) :
    ∃ A l c, cs = [.slice A l.length c] ∧ AtmsAt w A l ∧ l.length ≤ c ∧ l.length ≤ 9223372036854775807 ∧ ∀ y ∈ l, y.wf := by
  obtain ⟨A, l, c, h1, h2, h3, h4, h5⟩ := open_gen (α := Atm) ht (k := 3) (by kernel_rfl) (by decide) (AtmIn w) (fun n cs x => trod_Atm n cs x) h
  refine ⟨A, l, c, h1, fun hp => ?_, h3, h2, fun y hy => let ⟨_, hz, _⟩ := h5 y hy; hz⟩
  obtain ⟨b, o, e, hc⟩ := h4 hp
  refine ⟨b, o, e, fun i hi => ?_⟩
  obtain ⟨cs, ⟨_, T, c', rfl, k⟩, hc⟩ := hc i hi
  exact ⟨T, c', by simpa using hc 0 _ rfl, hc 1 _ rfl, hc 2 _ rfl, k⟩
def RulIn (w : World) (r : Rul) (cs : List Value) : Prop := r.wf ∧ ∃ T c T' c', cs = [.slice T r.atoms.length c, .slice T' r.conds.length c'] ∧ AtmsAt w T r.atoms ∧ CndsAt w T' r.conds ∧ r.atoms.length ≤ c ∧ r.conds.length ≤ c' ∧ r.atoms.length ≤ 9223372036854775807 ∧ r.conds.length ≤ 9223372036854775807
set_option maxRecDepth 100000 in
theorem trod_Rul (n : Nat) (cs : List Value) (x : DataW H × List MemPlace) (h : DataW.trod enc Tryz.prog w base sp held n 142 cs = some x) : ∃ r : Rul, RulIn w r cs := by
  obtain ⟨xs, m, _, _, hcl, hxl, hf⟩ := DataW.trod_struct Tryz.underlying142 h
  have hc : Tryz.prog.cellsOf 142 = 2 := by kernel_rfl
  rw [hc] at hcl
  match cs, hcl, xs, hxl with
  | [c0, c1], _, [y0, y1], _ =>
    have h0 := hf 0 _ rfl
    have h1 := hf 1 _ rfl
    simp only [List.getElem?_cons_zero, List.getElem?_cons_succ] at h0 h1
    obtain ⟨A, ats, c, e0, k1, k2, k3, k4⟩ := trod_atms Tryz.underlying139 h0
    obtain ⟨A', cnds, c', e1, k1', k2', k3', k4'⟩ := trod_cnds Tryz.underlying140 h1
    have g0 : [c0] = _ := e0
    clear e0
    have g1 : [c1] = _ := e1
    clear e1
    simp only [List.cons.injEq, and_true] at g0 g1
    subst g0 g1
    exact ⟨⟨ats, cnds⟩, ⟨k4, k4'⟩, A, c, A', c', rfl, k1, k1', k2, k2', k3, k3'⟩
theorem trod_ruls {n : Nat} {t : TypeId} (ht : Tryz.prog.underlying t = some (.slice 142)) {cs : List Value} {x : DataW H × List MemPlace} (h : DataW.trod enc Tryz.prog w base sp held n t cs = some x) :
    ∃ A l c, cs = [.slice A l.length c] ∧ RulsAt w A l ∧ l.length ≤ c ∧ l.length ≤ 9223372036854775807 ∧ ∀ y ∈ l, y.wf := by
  obtain ⟨A, l, c, h1, h2, h3, h4, h5⟩ := open_gen (α := Rul) ht (k := 2) (by kernel_rfl) (by decide) (RulIn w) (fun n cs x => trod_Rul n cs x) h
  refine ⟨A, l, c, h1, fun hp => ?_, h3, h2, fun y hy => let ⟨_, hz, _⟩ := h5 y hy; hz⟩
  obtain ⟨b, o, e, hc⟩ := h4 hp
  refine ⟨b, o, e, fun i hi => ?_⟩
  obtain ⟨cs, ⟨_, T, c', T', c'', rfl, k⟩, hc⟩ := hc i hi
  exact ⟨T, c', T', c'', by simpa using hc 0 _ rfl, hc 1 _ rfl, k⟩

/-- A query's cells. -/
structure QryIn (w : World) (q : Qry) (H R O : Option Addr) (ch cr co : Nat) : Prop where
  head : NmsAt w H q.head
  rules : RulsAt w R q.rules
  order : KysAt w O q.order
  lh : q.head.length ≤ ch
  lr : q.rules.length ≤ cr
  lo : q.order.length ≤ co
  mh : q.head.length ≤ 9223372036854775807
  mr : q.rules.length ≤ 9223372036854775807
  mo : q.order.length ≤ 9223372036854775807
theorem QryIn.below {w w' : World} {q : Qry} {H R O : Option Addr} {ch cr co : Nat} (h : QryIn w q H R O ch cr co) (hb : Below w.heap.size w w') : QryIn w' q H R O ch cr co :=
  ⟨h.head.below hb, h.rules.below hb, h.order.below hb, h.lh, h.lr, h.lo, h.mh, h.mr, h.mo⟩

set_option maxRecDepth 100000 in
theorem trod_Qry (n : Nat) (cs : List Value) (x : DataW H × List MemPlace) (h : DataW.trod enc Tryz.prog w base sp held n 95 cs = some x) :
    ∃ (q : Qry) (A R O : Option Addr) (ch cr co : Nat), q.wf ∧ cs = [.slice A q.head.length ch, .int .i64 q.agg, .string ⟨q.aggVar.toArray⟩, .slice R q.rules.length cr, .slice O q.order.length co] ∧ QryIn w q A R O ch cr co := by
  obtain ⟨xs, m, _, _, hcl, hxl, hf⟩ := DataW.trod_struct Tryz.underlying95 h
  have hc : Tryz.prog.cellsOf 95 = 5 := by kernel_rfl
  rw [hc] at hcl
  match cs, hcl, xs, hxl with
  | [c0, c1, c2, c3, c4], _, [y0, y1, y2, y3, y4], _ =>
    have h0 := hf 0 _ rfl
    have h1 := hf 1 _ rfl
    have h2 := hf 2 _ rfl
    have h3 := hf 3 _ rfl
    have h4 := hf 4 _ rfl
    simp only [List.getElem?_cons_zero, List.getElem?_cons_succ] at h0 h1 h2 h3 h4
    obtain ⟨A, hd, ch, e0, a1, a2, a3, a4⟩ := trod_nms Tryz.underlying27 h0
    obtain ⟨g, hg, e1⟩ := trod_int' Tryz.underlying3 h1
    obtain ⟨v, hv, e2⟩ := trod_str Tryz.underlying9 h2
    obtain ⟨R, rs, cr, e3, b1, b2, b3, b4⟩ := trod_ruls Tryz.underlying92 h3
    obtain ⟨O, os, co, e4, d1, d2, d3, d4⟩ := trod_kys Tryz.underlying93 h4
    have g0 : [c0] = _ := e0
    clear e0
    have g1 : [c1] = _ := e1
    clear e1
    have g2 : [c2] = _ := e2
    clear e2
    have g3 : [c3] = _ := e3
    clear e3
    have g4 : [c4] = _ := e4
    clear e4
    simp only [List.cons.injEq, and_true] at g0 g1 g2 g3 g4
    subst g0 g1 g2 g3 g4
    exact ⟨⟨hd, g, v, rs, os⟩, A, R, O, ch, cr, co, ⟨a4, hg, hv, b4, d4⟩, rfl, a1, b1, d1, a2, b2, d2, a3, b3, d3⟩
end
/-- A query as a value. -/
abbrev qryV (q : Qry) (A R O : Option Addr) (ch cr co : Nat) : Value := .agg #[.slice A q.head.length ch, .int .i64 q.agg, .string ⟨q.aggVar.toArray⟩, .slice R q.rules.length cr, .slice O q.order.length co]
set_option maxRecDepth 100000 in
theorem open_qry {H : Type} {enc : TypeId × Value → H} {w W : World} {base b0 : Nat} {sp : Nat → Bool} {held : Bool} {r : Reach} {n : Nat} {v : Value} {x : DataW H × List MemPlace} (hok : Value.okWide Tryz.prog W r b0 95 v)
    (h : DataW.trod enc Tryz.prog w base sp held n 95 v.cells.toList = some x) : ∃ (q : Qry) (A R O : Option Addr) (ch cr co : Nat), q.wf ∧ v = qryV q A R O ch cr co ∧ QryIn w q A R O ch cr co := by
  obtain ⟨cs, rfl, _⟩ := okWide_struct Tryz.underlying95 hok
  obtain ⟨q, A, R, O, ch, cr, co, hq, hc, hi⟩ := trod_Qry n _ _ h
  obtain ⟨cs⟩ := cs
  have : cs = [.slice A q.head.length ch, .int .i64 q.agg, .string ⟨q.aggVar.toArray⟩, .slice R q.rules.length cr, .slice O q.order.length co] := hc
  subst this
  exact ⟨q, A, R, O, ch, cr, co, hq, rfl, hi⟩
end

/-! ### Ast5 -/
section
open Go.RowKit

/-- The ways of a byte at the place k of a name. -/
theorem okAt_ways (k : Nat) (c : UInt8) : (okAt k c = true ∧ 97 ≤ c.toNat ∧ c.toNat ≤ 122) ∨ (okAt k c = true ∧ 65 ≤ c.toNat ∧ c.toNat ≤ 90) ∨
    (okAt k c = true ∧ 0 < k ∧ c.toNat = 95) ∨ (okAt k c = true ∧ 0 < k ∧ 48 ≤ c.toNat ∧ c.toNat ≤ 57) ∨
    (okAt k c = false ∧ k = 0 ∧ (c.toNat < 65 ∨ (90 < c.toNat ∧ c.toNat < 97) ∨ 122 < c.toNat)) ∨
    (okAt k c = false ∧ 0 < k ∧ c.toNat ≠ 95 ∧ (c.toNat < 48 ∨ (57 < c.toNat ∧ c.toNat < 65) ∨ (90 < c.toNat ∧ c.toNat < 97) ∨ 122 < c.toNat)) := by
  have e95 : (c == 95) = decide (c.toNat = 95) := by
    by_cases h : c = 95
    · subst h; rfl
    · have h2 : ¬ c.toNat = 95 := fun e => h (UInt8.toNat.inj e)
      simp [h, h2]
  unfold okAt letQ
  rw [e95]
  simp only [Bool.or_eq_true, Bool.and_eq_true, decide_eq_true_eq, Bool.or_eq_false_iff, Bool.and_eq_false_iff, decide_eq_false_iff_not]
  omega

set_option maxRecDepth 100000 in
set_option maxHeartbeats 4000000 in
theorem cat_valid (s : ByteArray) (w : World) {x : Bool} (hx : catB s.data.toList = x) :
    Calls Tryz.prog 32 #[.string s] w fun e w' => e = .returned (.bool x) ∧ w = w' := by
  have hll : s.data.toList.length = s.size := by simp
  rw [catB_from, hll] at hx
  by_cases h0 : 0 < s.size
  · have he : s.toList.isEmpty = false := by
      rw [Lib.toList_data]
      cases hd : s.data.toList with
      | nil => rw [hd] at hll; simp at hll; omega
      | cons a l => rfl
    by_cases h16 : s.size ≤ 16
    · have HX : Hid (catFrom 0 (s.data.toList.drop 0) = x) := hid (by rw [← hx]; simp [h0, h16])
      clear hx
      go_enter Tryz.func32, Tryz.ntmps32
      go_wp2
      go_loop [15] (fun i => ∃ k : Nat, k ≤ s.size ∧ i = .int .i64 k ∧ Hid (catFrom k (s.data.toList.drop k) = x)) (fun i => s.size - (intOf i).toNat)
      case atStart => exact ⟨0, by omega, rfl, HX⟩
      case round =>
        obtain ⟨k, hk, rfl, HK⟩ := hrel
        clear HX
        by_cases hlt : k < s.size
        · have hlt' : k < s.data.toList.length := by simpa using hlt
          have hget : s.data.toList[k] = s[k] := by rw [Array.getElem_toList]; rfl
          have hon := fun h => catFrom_on hlt' h
          have hbad := fun h => catFrom_bad hlt' h
          rw [hget] at hon hbad
          have hb := s[k].toNat_lt
          rcases okAt_ways k s[k] with ⟨h, h1, h2⟩ | ⟨h, h1, h2⟩ | ⟨h, h1, h2⟩ | ⟨h, h1, h2, h3⟩ | ⟨h, h1, h2⟩ | ⟨h, h1, h3, h2⟩
          · have HN : Hid (catFrom (k + 1) (s.data.toList.drop (k + 1)) = x) := hid ((hon h).symm.trans HK.out)
            clear hon hbad h HK hget
            go_wp2
            go_round
            case rel => exact ⟨k + 1, by omega, by go_num, HN⟩
            case measure => simp [intOf]; omega
          · have HN : Hid (catFrom (k + 1) (s.data.toList.drop (k + 1)) = x) := hid ((hon h).symm.trans HK.out)
            clear hon hbad h HK hget
            go_wp2
            go_round
            case rel => exact ⟨k + 1, by omega, by go_num, HN⟩
            case measure => simp [intOf]; omega
          · have HN : Hid (catFrom (k + 1) (s.data.toList.drop (k + 1)) = x) := hid ((hon h).symm.trans HK.out)
            have b95 : ((s[k].toNat : Int) != 95) = false := by rw [bne_eq_false_iff_eq]; omega
            have bk : ((k : Int) == 0) = false := by rw [beq_eq_false_iff_ne]; omega
            have h5 : 90 < s[k].toNat := by omega
            have h6 : s[k].toNat < 97 := by omega
            clear hon hbad h HK hget h2
            go_wp2
            go_round
            case rel => exact ⟨k + 1, by omega, by go_num, HN⟩
            case measure => simp [intOf]; omega
          · have HN : Hid (catFrom (k + 1) (s.data.toList.drop (k + 1)) = x) := hid ((hon h).symm.trans HK.out)
            have b95 : ((s[k].toNat : Int) != 95) = true := by rw [bne_iff_ne]; omega
            have bk : ((k : Int) == 0) = false := by rw [beq_eq_false_iff_ne]; omega
            clear hon hbad h HK hget
            go_wp2
            go_round
            case rel => exact ⟨k + 1, by omega, by go_num, HN⟩
            case measure => simp [intOf]; omega
          · have hx : false = x := (hbad h).symm.trans HK.out
            subst hx
            have bk : ((k : Int) == 0) = true := by rw [beq_iff_eq]; omega
            clear hon hbad h HK hget h1
            rcases h2 with h2 | ⟨h2, h4⟩ | h2
            all_goals
              try (have d90 : decide ((s[k].toNat : Int) ≤ 90) = false := decide_eq_false (by omega))
              try (have d122 : decide ((s[k].toNat : Int) ≤ 122) = false := decide_eq_false (by omega))
              go_wp2
              go_ret
              exact ⟨rfl, rfl⟩
          · have hx : false = x := (hbad h).symm.trans HK.out
            subst hx
            have b95 : ((s[k].toNat : Int) != 95) = true := by rw [bne_iff_ne]; omega
            have bk : ((k : Int) == 0) = false := by rw [beq_eq_false_iff_ne]; omega
            clear hon hbad h HK hget h3
            rcases h2 with h2 | ⟨h2, h4⟩ | ⟨h2, h4⟩ | h2
            all_goals
              try (have d90 : decide ((s[k].toNat : Int) ≤ 90) = false := decide_eq_false (by omega))
              try (have d122 : decide ((s[k].toNat : Int) ≤ 122) = false := decide_eq_false (by omega))
              go_wp2
              go_ret
              exact ⟨rfl, rfl⟩
        · have hx : true = x := (catFrom_end (by simpa using hlt)).symm.trans HK.out
          subst hx
          clear HK
          go_wp2
          go_ret
          exact ⟨rfl, rfl⟩
    · have hx : x = false := by rw [← hx]; simp [h16]
      subst hx
      go_enter Tryz.func32, Tryz.ntmps32
      go_wp2
      go_ret
      exact ⟨rfl, rfl⟩
  · have he : s.toList.isEmpty = true := by
      rw [Lib.toList_data]
      have : s.data.toList = [] := List.eq_nil_of_length_eq_zero (by rw [hll]; omega)
      rw [this]; rfl
    have hx : x = false := by rw [← hx]; simp [h0]
    subst hx
    clear hll
    go_enter Tryz.func32, Tryz.ntmps32
    go_wp2
    go_ret
    exact ⟨rfl, rfl⟩

theorem tl_mk (l : Str) : (⟨l.toArray⟩ : ByteArray).toList = l := by rw [Lib.toList_data]
theorem beq_list (a b : Str) : (a == b) = decide (a = b) := by
  by_cases h : a = b <;> simp [h]

set_option maxRecDepth 100000 in
set_option maxHeartbeats 2000000 in
theorem ast_valid (l : Str) (w : World) {x : Bool} (hx : nameB l = x) :
    Calls Tryz.prog 122 #[.string ⟨l.toArray⟩] w fun e w' => e = .returned (.bool x) ∧ w = w' := by
  obtain ⟨s, hs⟩ : ∃ s : ByteArray, s = ⟨l.toArray⟩ := ⟨_, rfl⟩
  have hl : s.data.toList = l := by rw [hs]
  rw [← hs]
  clear hs
  subst hl
  have tl : s.data.toList = s.toList := (Lib.toList_data s).symm
  obtain ⟨y, hy⟩ : ∃ y, catB s.data.toList = y := ⟨_, rfl⟩
  have HV := fun W => hid (cat_valid s W hy)
  unfold nameB keyQ at hx
  rw [hy, tl] at hx
  clear hy tl
  simp only [List.contains_cons, List.contains_nil, Bool.or_false] at hx
  cases b1 : (s.toList == [99, 111, 117, 110, 116])
  · cases b2 : (s.toList == [100, 101, 115, 99])
    · cases b3 : (s.toList == [109, 97, 120])
      · cases b4 : (s.toList == [109, 105, 110])
        · cases b5 : (s.toList == [110, 111, 116])
          · cases b6 : (s.toList == [111, 114, 100, 101, 114])
            · cases b7 : (s.toList == [115, 117, 109])
              · rw [b1, b2, b3, b4, b5, b6, b7] at hx
                have hx : y = x := by simpa using hx
                subst hx
                go_enter Tryz.func122, Tryz.ntmps122
                go_wp2_with fail
                refine (HV _).out.mono ?_
                rintro e w1 ⟨rfl, rfl⟩
                go_wp2
                go_ret
                exact ⟨rfl, rfl⟩
              all_goals
                have hx : x = false := by rw [← hx, b7]; simp
                subst hx
                clear HV
                go_enter Tryz.func122, Tryz.ntmps122
                go_wp2
                go_ret
                exact ⟨rfl, rfl⟩
            all_goals
              have hx : x = false := by rw [← hx, b6]; simp
              subst hx
              clear HV
              go_enter Tryz.func122, Tryz.ntmps122
              go_wp2
              go_ret
              exact ⟨rfl, rfl⟩
          all_goals
            have hx : x = false := by rw [← hx, b5]; simp
            subst hx
            clear HV
            go_enter Tryz.func122, Tryz.ntmps122
            go_wp2
            go_ret
            exact ⟨rfl, rfl⟩
        all_goals
          have hx : x = false := by rw [← hx, b4]; simp
          subst hx
          clear HV
          go_enter Tryz.func122, Tryz.ntmps122
          go_wp2
          go_ret
          exact ⟨rfl, rfl⟩
      all_goals
        have hx : x = false := by rw [← hx, b3]; simp
        subst hx
        clear HV
        go_enter Tryz.func122, Tryz.ntmps122
        go_wp2
        go_ret
        exact ⟨rfl, rfl⟩
    all_goals
      have hx : x = false := by rw [← hx, b2]; simp
      subst hx
      clear HV
      go_enter Tryz.func122, Tryz.ntmps122
      go_wp2
      go_ret
      exact ⟨rfl, rfl⟩
  all_goals
    have hx : x = false := by rw [← hx, b1]; simp
    subst hx
    clear HV
    go_enter Tryz.func122, Tryz.ntmps122
    go_wp2
    go_ret
    exact ⟨rfl, rfl⟩
end
end Go.Proofs.YtjhnopnppimnhaaGreatDoor
