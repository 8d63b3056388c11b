/-
  ARGUMENTS OPENED: values.
-/
import Derived.Test.YtaghaigckgckpaaDoorLaw
import Derived.Test.YtaghaigckgckpaaDoorPlain
import Derived.Test.YtaghaigckgckpaaDoorProg
namespace Go.Proofs.YtaghaigckgckpaaDoor
open Go.ChangeShapes Go.WideShapes Go.ChangeAt Go.RowKit Go.Deep

/-- A value as an argument can bear it. -/
structure V.wf (v : V) : Prop where
  k : I64 v.k
  n : I64 v.n
  s : v.s.size ≤ 9223372036854775807

instance : Inhabited V := ⟨⟨0, 0, ⟨#[]⟩⟩⟩

theorem i64_of {n : Int} (h : (Lit.int .i64 n).wf = true) : I64 n := by
  simp [Lit.wf, IntKind.min, IntKind.max, IntKind.signed, IntKind.bits] at h
  unfold I64
  omega

section
variable {H : Type} {enc : TypeId × Value → H} {w : World} {base : Nat} {sp : Nat → Bool} {held : Bool}

set_option maxRecDepth 100000 in
theorem trod_V {n : Nat} {cs : List Value} {x : DataW H × List MemPlace} (h : DataW.trod enc Tryd.prog w base sp held n 43 cs = some x) :
    ∃ v : V, v.wf ∧ cs = [.int .i64 v.k, .int .i64 v.n, .string v.s] := by
  obtain ⟨xs, m, _, _, hcl, hxl, hf⟩ := DataW.trod_struct Tryd.underlying43 h
  have hc3 : Tryd.prog.cellsOf 43 = 3 := by kernel_rfl
  rw [hc3] at hcl
  match cs, hcl, xs, hxl with
  | [c0, c1, c2], _, [y0, y1, y2], _ =>
    have h0 := hf 0 _ rfl
    have h1 := hf 1 _ rfl
    have h2 := hf 2 _ rfl
    simp only [List.getElem?_cons_zero, List.getElem?_cons_succ] at h0 h1 h2
    obtain ⟨k, e0, _, w0⟩ := DataW.trod_int Tryd.underlying3 h0
    obtain ⟨q, e1, _, w1⟩ := DataW.trod_int Tryd.underlying2 h1
    obtain ⟨s, e2, _, w2⟩ := DataW.trod_string Tryd.underlying9 h2
    injection e0 with e0
    injection e1 with e1
    injection e2 with e2
    subst e0 e1 e2
    exact ⟨⟨k, q, s⟩, ⟨i64_of w0, i64_of w1, w2⟩, rfl⟩

theorem addr_plain {a : Addr} {v : Value} {j : Nat} (h : w.cell? (a.add j) = some v) : (j = 0 → a.spot = none) ∧ a.add j = ⟨a.block, a.off + j, if j = 0 then a.spot else none⟩ := by
  refine ⟨fun hj => ?_, ?_⟩
  · subst hj
    have : a.add 0 = a := by simp [Addr.add]
    rw [this] at h
    unfold World.cell? at h
    cases hs : a.spot with
    | none => rfl
    | some x =>
      rw [hs] at h
      split at h <;> simp at h
  · unfold Addr.add
    by_cases hj : j = 0
    · subst hj; simp
    · simp [hj]

end
end Go.Proofs.YtaghaigckgckpaaDoor
