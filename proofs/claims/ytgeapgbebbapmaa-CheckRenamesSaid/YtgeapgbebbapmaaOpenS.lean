/-
  ARGUMENTS OPENED: schemas, a rule.
-/
import Derived.Test.YtgeapgbebbapmaaChk4
namespace Go.Proofs.Ytgeapgbebbapmaa
open Go.ChangeShapes Go.WideShapes Go.ChangeAt Go.RowKit Go.Deep

instance : Inhabited Sch := ⟨⟨[], []⟩⟩
section
variable {H : Type} {enc : TypeId × Value → H} {w : World} {base : Nat} {sp : Nat → Bool} {held : Bool}
theorem trod_kinds {n : Nat} {t : TypeId} (ht : Try.prog.underlying t = some (.slice 3)) {cs : List Value} {x : DataW H × List MemPlace} (h : DataW.trod enc Try.prog w base sp held n t cs = some x) :
    ∃ A l c, cs = [.slice A l.length c] ∧ KdsAt w A l ∧ l.length ≤ c ∧ l.length ≤ 9223372036854775807 ∧ ∀ y ∈ l, I64 y := by
  obtain ⟨A, l, c, h1, h2, h3, h4, h5⟩ := open_gen (α := Int) ht (k := 1) (by kernel_rfl) (by decide) (fun u cs => I64 u ∧ cs = [.int .i64 u]) (fun _ _ _ => trod_int' Try.underlying3) h
  refine ⟨A, l, c, h1, fun hp => ?_, h3, h2, fun y hy => let ⟨_, hz, _⟩ := h5 y hy; hz⟩
  obtain ⟨b, o, e, hc⟩ := h4 hp
  refine ⟨b, o, e, fun i hi => ?_⟩
  obtain ⟨cs, ⟨_, rfl⟩, hc⟩ := hc i hi
  simpa using hc 0 _ rfl
def SchIn (w : World) (s : Sch) (cs : List Value) : Prop := s.wf ∧ ∃ T c, cs = [.string ⟨s.name.toArray⟩, .slice T s.kinds.length c] ∧ KdsAt w T s.kinds ∧ s.kinds.length ≤ c ∧ s.kinds.length ≤ 9223372036854775807
set_option maxRecDepth 100000 in
theorem trod_Sch (n : Nat) (cs : List Value) (x : DataW H × List MemPlace) (h : DataW.trod enc Try.prog w base sp held n 61 cs = some x) : ∃ s : Sch, SchIn w s cs := by
  obtain ⟨xs, m, _, _, hcl, hxl, hf⟩ := DataW.trod_struct Try.underlying61 h
  have hc : Try.prog.cellsOf 61 = 2 := by kernel_rfl
  rw [hc] at hcl
  match cs, hcl, xs, hxl with
  | [c0, c1], _, [y0, y1], _ =>
    have h0 := hf 0 _ rfl
    have h1 := hf 1 _ rfl
    simp only [List.getElem?_cons_zero, List.getElem?_cons_succ] at h0 h1
    obtain ⟨l, hl, e0⟩ := trod_str Try.underlying9 h0
    obtain ⟨A, ks, c, e1, k1, k2, k3, k4⟩ := trod_kinds Try.underlying31 h1
    have g0 : [c0] = _ := e0
    clear e0
    have g1 : [c1] = _ := e1
    clear e1
    simp only [List.cons.injEq, and_true] at g0 g1
    subst g0 g1
    exact ⟨⟨l, ks⟩, ⟨hl, k4⟩, A, c, rfl, k1, k2, k3⟩
theorem trod_schs {n : Nat} {t : TypeId} (ht : Try.prog.underlying t = some (.slice 61)) {cs : List Value} {x : DataW H × List MemPlace} (h : DataW.trod enc Try.prog w base sp held n t cs = some x) :
    ∃ A l c, cs = [.slice A l.length c] ∧ SchsAt w A l ∧ l.length ≤ c ∧ l.length ≤ 9223372036854775807 ∧ ∀ y ∈ l, y.wf := by
  obtain ⟨A, l, c, h1, h2, h3, h4, h5⟩ := open_gen (α := Sch) ht (k := 2) (by kernel_rfl) (by decide) (SchIn w) (fun n cs x => trod_Sch n cs x) h
  refine ⟨A, l, c, h1, fun hp => ?_, h3, h2, fun y hy => let ⟨_, hz, _⟩ := h5 y hy; hz⟩
  obtain ⟨b, o, e, hc⟩ := h4 hp
  refine ⟨b, o, e, fun i hi => ?_⟩
  obtain ⟨cs, ⟨_, T, c', rfl, k⟩, hc⟩ := hc i hi
  exact ⟨T, c', by simpa using hc 0 _ rfl, hc 1 _ rfl, k⟩
/-- An argument of slice type. -/
theorem open_schs {t : TypeId} (ht : Try.prog.underlying t = some (.slice 61)) {fuel : Nat} {v : Value} {x : DataW H × List MemPlace} (hs : ∃ a len cap, v = .slice a len cap)
    (h : DataW.trod enc Try.prog w base sp held fuel t v.cells.toList = some x) : ∃ A l c, v = .slice A (l : List Sch).length c ∧ SchsAt w A l ∧ l.length ≤ c ∧ l.length ≤ 9223372036854775807 ∧ ∀ y ∈ l, y.wf := by
  obtain ⟨a, len, cap, rfl⟩ := hs
  obtain ⟨A, l, c, h1, h2⟩ := trod_schs ht h
  have h3 : [Value.slice a len cap] = _ := h1
  injection h3 with h4 _
  exact ⟨A, l, c, h4, h2⟩
end
set_option maxRecDepth 100000 in
theorem open_rul {H : Type} {enc : TypeId × Value → H} {w W : World} {base b0 : Nat} {sp : Nat → Bool} {held : Bool} {r : Reach} {n : Nat} {v : Value} {x : DataW H × List MemPlace} (hok : Value.okWide Try.prog W r b0 46 v)
    (h : DataW.trod enc Try.prog w base sp held n 46 v.cells.toList = some x) :
    ∃ (u : Rul) (T : Option Addr) (c : Nat) (T' : Option Addr) (c' : Nat), u.wf ∧ v = .agg #[.slice T u.atoms.length c, .slice T' u.conds.length c'] ∧ AtmsAt w T u.atoms ∧ CndsAt w T' u.conds ∧ u.atoms.length ≤ c ∧ u.conds.length ≤ c' ∧ u.atoms.length ≤ 9223372036854775807 ∧ u.conds.length ≤ 9223372036854775807 := by
  obtain ⟨cs, rfl, _⟩ := okWide_struct Try.underlying46 hok
  obtain ⟨u, hu, T, c, T', c', hc, hi⟩ := trod_Rul n _ _ h
  obtain ⟨cs⟩ := cs
  have : cs = [.slice T u.atoms.length c, .slice T' u.conds.length c'] := hc
  subst this
  exact ⟨u, T, c, T', c', hu, rfl, hi⟩
end Go.Proofs.Ytgeapgbebbapmaa
