/-
  WHAT THE ROWS' LISTED TABLES GIVE, and a start for the witness.
-/
import Derived.Test.YtaghaigckgckpaaDoorOpenV
import Derived.Test.YtaghaigckgckpaaDoorText
import Derived.MakeChecks
import Derived.WalkSmall
namespace Go.Proofs.YtaghaigckgckpaaDoor
open Go.ChangeShapes Go.WideShapes Go.ChangeAt Go.RowKit Go.Deep

theorem own : ownKnob Tryd.prog.godebug = none := by kernel_rfl
theorem laidOut : laidOutB Tryd.prog = true := by kernel_rfl
theorem gTab : Tryd.prog.globalNamed "internal/strconv.uint64pow10" = some 1 := by kernel_rfl
theorem gTabType : (Tryd.prog.globals[1]?).map (·.type) = some 97 := by kernel_rfl
theorem cellsU64 : Tryd.prog.cellsOf 90 = 1 := by kernel_rfl
theorem cellsTab : Tryd.prog.cellsOf 97 = 20 := by kernel_rfl
theorem tabData_eq : (Rows.laid_internal_strconv_uint64pow10 : DataW Unit) = Lib.tabData .u64 Lib.pow10Tab := by kernel_rfl

theorem laidVars_reads {P : Program} {w : World} : ∀ {l : List (String × DataW Unit)} {ps : List MemPlace}, DataW.LaidVars P w l ps → ∀ n d, (n, d) ∈ l →
    ∃ g t cs fuel p, P.globalNamed n = some g ∧ (P.globals[g]?).map (·.type) = some t ∧ w.var? P n = some cs ∧ DataW.trod (fun _ => ()) P w 0 (fun _ => true) false fuel t cs.toList = some (d, p)
  | [], _, _, _, _, hm => by cases hm
  | (n', d') :: r, ps, h, n, d, hm => by
    obtain ⟨g, t, cs, fuel, p, q, h1, h2, h3, h4, h5, _⟩ := h
    rcases List.mem_cons.1 hm with e | e
    · cases e
      exact ⟨g, t, cs, fuel, p, h1, h2, h3, h4⟩
    · exact laidVars_reads h5 n d e

/-- What a row's list gives: the table of powers of ten. -/
theorem tab_of_laid {l : List (String × DataW Unit)} {W : World} (hm : ("internal/strconv.uint64pow10", Rows.laid_internal_strconv_uint64pow10) ∈ l) (hp : (l.all fun x => x.2.handleName?.isNone) = true) (h : laidMetH Tryd.prog l W) : Tab W := by
  rw [MakeChecks.laidMetH_plain _ _ _ hp] at h
  obtain ⟨ps, hv, _⟩ := h
  obtain ⟨g, t, cs, fuel, p, h1, h2, h3, h4⟩ := laidVars_reads hv _ _ hm
  obtain rfl := Option.some.inj (gTab.symm.trans h1)
  obtain rfl := Option.some.inj (gTabType.symm.trans h2)
  rw [tabData_eq] at h4
  have hcs := Lib.cells_of_tab Tryd.underlying97 Tryd.underlying90 cellsU64 cellsTab h4
  have hlt : 1 < W.heap.size := by
    unfold World.var? at h3
    rw [gTab] at h3
    simp only [Option.bind_some] at h3
    cases hq : W.heap[1]? with
    | none => rw [hq] at h3; cases h3
    | some o => exact (Array.getElem?_eq_some_iff.1 hq).1
  intro w' hb
  have h3' := var?_below hb gTab hlt h3
  unfold Lib.TabIs
  rw [h3', ← hcs]

theorem okWide_array {P : Program} {w : World} {r : Reach} {base : Nat} {t : TypeId} {v : Value} {n : Nat} {e : TypeId} (ht : P.underlying t = some (.array n e)) (h : Value.okWide P w r base t v) : ∃ cs, v = .agg cs ∧ cs.size = P.cellsOf t := by
  simp only [Value.okWide, ht] at h
  obtain ⟨cs, h1, h2, _⟩ := h
  exact ⟨cs, h1, h2⟩

theorem slice_of {n : Nat} {H : Type} {enc : TypeId × Value → H} {w : World} {base : Nat} {sp : Nat → Bool} {held : Bool} {t e : TypeId} {v : Value} {x : DataW H × List MemPlace} (ht : Tryd.prog.underlying t = some (.slice e))
    (h : DataW.trod enc Tryd.prog w base sp held n t [v] = some x) : ∃ a len cap, v = .slice a len cap := by
  rcases open_slice ht h with ⟨h0, _⟩ | ⟨a', len', cap', m, n, D, Pl, hcs, _⟩
  · injection h0 with h0 _; exact ⟨_, _, _, h0⟩
  · injection hcs with h0 _; exact ⟨_, _, _, h0⟩

/-- A start for the witness: the settled world, the three tables as their initialisers lay them. -/
def cellsIn : DataW Unit → Array Value
  | .agg l => (l.map fun | .lit (.int k n) => Value.int k n | _ => undef).toArray
  | _ => #[]
def layIn (d : DataW Unit) : Obj → Obj
  | .cells _ t frozen => .cells (cellsIn d) t frozen
  | o => o
noncomputable def laidWorld (os : Os) : World :=
  { World.holding Tryd.prog os ⟨#[], #[], []⟩ with heap := (((World.holding Tryd.prog os ⟨#[], #[], []⟩).heap.modify 1 (layIn Rows.laid_internal_strconv_uint64pow10)).modify 2 (layIn Rows.laid_math_bits_deBruijn32tab)).modify 3 (layIn Rows.laid_math_bits_deBruijn64tab) }

end Go.Proofs.YtaghaigckgckpaaDoor
