/-
  WHAT THE ROWS' LISTED VARIABLES GIVE where two sentinels are listed too, and the witness.
-/
import Derived.Test.YtkoajdbijlpgaaaDoorLaid
import Derived.Test.YtkoajdbijlpgaaaDoorPint
import Derived.Stop.LaidErr
import Derived.Lay
import Derived.Deep.DeepHandedRow
namespace Go.Proofs.YtkoajdbijlpgaaaDoor
open Go.ChangeShapes Go.WideShapes Go.ChangeAt Go.RowKit Go.Deep

theorem gErr : Tryd.prog.globalNamed "strconv.ErrRange" = some 3 := by kernel_rfl
theorem gErrType : (Tryd.prog.globals[3]?).map (·.type) = some 110 := by kernel_rfl

theorem starErr : "*" ++ "errors.errorString" = "*errors.errorString" := by decide
theorem nameErr (u : TypeId) (h : Tryd.prog.typeName? 3 u = some "*errors.errorString") : u = 160 :=
  typeName_ptr_named (nm := "errors.errorString") (by rw [starErr]; kernel_rfl) (by kernel_rfl) (by decide) u (by rw [starErr]; exact h)

theorem env_of_laid {l : List (String × DataW Unit)} {W : World} {a b c d e : String × DataW Unit} (hl : l = [a, b, c, d, e]) (hd : d = ("strconv.ErrRange", Rows.laid_strconv_ErrRange)) (hm : ("internal/strconv.uint64pow10", Rows.laid_internal_strconv_uint64pow10) ∈ l) (hp : (l.all fun x => x.2.handleName?.isNone) = true) (h : laidMetH Tryd.prog l W) : Env W := by
  refine ⟨tab_of_laid hm hp h, ?_⟩
  rw [MakeChecks.laidMetH_plain _ _ _ hp] at h
  subst hl hd
  obtain ⟨a0, s0, hv, _⟩ := laid_sentinel h.tail.tail.tail gErr gErrType Tryd.underlying110 nameErr Tryd.underlying160 Tryd.underlying162 rfl rfl Tryd.underlying9 (by kernel_rfl) (by kernel_rfl)
  exact ⟨_, _, by simpa using World.var?_cell gErr hv 0⟩

set_option maxRecDepth 100000 in
/-- A value that came in. -/
theorem open_val {H : Type} {enc : TypeId × Value → H} {w W : World} {base b0 : Nat} {sp : Nat → Bool} {held : Bool} {r : Reach} {n : Nat} {v : Value} {x : DataW H × List MemPlace} (hok : Value.okWide Tryd.prog W r b0 41 v)
    (h : DataW.trod enc Tryd.prog w base sp held n 41 v.cells.toList = some x) : ∃ u : V, v = .agg #[.int .i64 u.k, .int .i64 u.n, .string u.s] ∧ u.wf := by
  obtain ⟨cs, rfl, _⟩ := okWide_struct Tryd.underlying41 hok
  obtain ⟨u, hu, hc⟩ := trod_V h
  obtain ⟨cs⟩ := cs
  have : cs = [.int .i64 u.k, .int .i64 u.n, .string u.s] := hc
  subst this
  exact ⟨u, rfl, hu⟩

set_option maxRecDepth 100000 in
theorem open_i64 {H : Type} {enc : TypeId × Value → H} {w W : World} {base b0 : Nat} {sp : Nat → Bool} {held : Bool} {r : Reach} {n : Nat} {v : Value} {x : DataW H × List MemPlace} {t : TypeId} (ht : Tryd.prog.underlying t = some (.int .i64)) (hok : Value.okWide Tryd.prog W r b0 t v)
    (h : DataW.trod enc Tryd.prog w base sp held n t v.cells.toList = some x) : ∃ k : Int, v = .int .i64 k ∧ I64 k := by
  obtain ⟨k, rfl⟩ := okWide_int ht hok
  obtain ⟨k', e, _, hw⟩ := DataW.trod_int ht h
  simp [Value.cells] at e
  subst e
  exact ⟨k, rfl, i64_of hw⟩
set_option maxRecDepth 100000 in
theorem open_str {H : Type} {enc : TypeId × Value → H} {w W : World} {base b0 : Nat} {sp : Nat → Bool} {held : Bool} {r : Reach} {n : Nat} {v : Value} {x : DataW H × List MemPlace} {t : TypeId} (ht : Tryd.prog.underlying t = some .string) (hok : Value.okWide Tryd.prog W r b0 t v)
    (h : DataW.trod enc Tryd.prog w base sp held n t v.cells.toList = some x) : ∃ s : ByteArray, v = .string s ∧ s.size ≤ 9223372036854775807 := by
  obtain ⟨s, rfl⟩ := okWide_string ht hok
  obtain ⟨s', e, _, hw⟩ := DataW.trod_string ht h
  simp [Value.cells] at e
  subst e
  exact ⟨s, rfl, hw⟩

/-- A start for the witness: the tables and the two sentinels as their initialisers lay them. -/
noncomputable def low : Nat := (World.holding Tryd.prog default ⟨#[], #[], []⟩).heap.size
def layErr (b : Nat) : Obj → Obj
  | .cells _ t frozen => .cells #[.iface 160 (.pointer (some ⟨b, 0, none⟩))] t frozen
  | o => o
noncomputable def laidWorldE (os : Os) : World :=
  let w0 := World.holding Tryd.prog os ⟨#[.cells #[.string ⟨#[118, 97, 108, 117, 101, 32, 111, 117, 116, 32, 111, 102, 32, 114, 97, 110, 103, 101]⟩] 162, .cells #[.string ⟨#[105, 110, 118, 97, 108, 105, 100, 32, 115, 121, 110, 116, 97, 120]⟩] 162], #[], []⟩
  { w0 with heap := ((((w0.heap.modify 1 (layIn Rows.laid_internal_strconv_uint64pow10)).modify 4 (layIn Rows.laid_math_bits_deBruijn32tab)).modify 5 (layIn Rows.laid_math_bits_deBruijn64tab)).modify 3 (layErr low)).modify 2 (layErr (low + 1)) }
end Go.Proofs.YtkoajdbijlpgaaaDoor
