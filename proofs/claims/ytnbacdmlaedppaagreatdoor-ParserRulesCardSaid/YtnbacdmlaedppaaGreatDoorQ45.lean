/-
  PARTS of a claim, merged by segs.py: Laid2, Laid3.
-/
import Derived.Test.YtnbacdmlaedppaaGreatDoorQ07
import Derived.Test.YtnbacdmlaedppaaGreatDoorQ15
import Derived.Test.YtnbacdmlaedppaaGreatDoorQ32
import Derived.Stop.LaidErr
import Derived.Lay
import Derived.Deep.DeepHandedRow
namespace Go.Proofs.YtnbacdmlaedppaaGreatDoor

/-! ### Laid2 -/
section
open Go.ChangeShapes Go.WideShapes Go.ChangeAt Go.RowKit Go.Deep

theorem gErr : Tryz.prog.globalNamed "strconv.ErrRange" = some 4 := by kernel_rfl
theorem gErrType : (Tryz.prog.globals[4]?).map (·.type) = some 60 := by kernel_rfl

theorem starErr : "*" ++ "errors.errorString" = "*errors.errorString" := by decide
theorem nameErr (u : TypeId) (h : Tryz.prog.typeName? 3 u = some "*errors.errorString") : u = 210 :=
  typeName_ptr_named (nm := "errors.errorString") (by rw [starErr]; kernel_rfl) (by kernel_rfl) (by decide) u (by rw [starErr]; exact h)

theorem env_of_laid {l : List (String × DataW Unit)} {W : World} {a b c d e : String × DataW Unit} (hl : l = [a, b, c, d, e]) (hd : d = ("strconv.ErrRange", Rows.laid_strconv_ErrRange)) (hm : ("internal/strconv.uint64pow10", Rows.laid_internal_strconv_uint64pow10) ∈ l) (hp : (l.all fun x => x.2.handleName?.isNone) = true) (h : laidMetH Tryz.prog l W) : Env W := by
  refine ⟨tab_of_laid hm hp h, ?_⟩
  rw [MakeChecks.laidMetH_plain _ _ _ hp] at h
  subst hl hd
  obtain ⟨a0, s0, hv, _⟩ := laid_sentinel h.tail.tail.tail gErr gErrType Tryz.underlying60 nameErr Tryz.underlying210 Tryz.underlying212 rfl rfl Tryz.underlying9 (by kernel_rfl) (by kernel_rfl)
  exact ⟨_, _, by simpa using World.var?_cell gErr hv 0⟩

set_option maxRecDepth 100000 in
/-- A value that came in. -/
theorem open_val {H : Type} {enc : TypeId × Value → H} {w W : World} {base b0 : Nat} {sp : Nat → Bool} {held : Bool} {r : Reach} {n : Nat} {v : Value} {x : DataW H × List MemPlace} (hok : Value.okWide Tryz.prog W r b0 56 v)
    (h : DataW.trod enc Tryz.prog w base sp held n 56 v.cells.toList = some x) : ∃ u : V, v = .agg #[.int .i64 u.k, .int .i64 u.n, .string u.s] ∧ u.wf := by
  obtain ⟨cs, rfl, _⟩ := okWide_struct Tryz.underlying56 hok
  obtain ⟨u, hu, hc⟩ := trod_V h
  obtain ⟨cs⟩ := cs
  have : cs = [.int .i64 u.k, .int .i64 u.n, .string u.s] := hc
  subst this
  exact ⟨u, rfl, hu⟩

set_option maxRecDepth 100000 in
theorem open_i64 {H : Type} {enc : TypeId × Value → H} {w W : World} {base b0 : Nat} {sp : Nat → Bool} {held : Bool} {r : Reach} {n : Nat} {v : Value} {x : DataW H × List MemPlace} {t : TypeId} (ht : Tryz.prog.underlying t = some (.int .i64)) (hok : Value.okWide Tryz.prog W r b0 t v)
    (h : DataW.trod enc Tryz.prog w base sp held n t v.cells.toList = some x) : ∃ k : Int, v = .int .i64 k ∧ I64 k := by
  obtain ⟨k, rfl⟩ := okWide_int ht hok
  obtain ⟨k', e, _, hw⟩ := DataW.trod_int ht h
  simp [Value.cells] at e
  subst e
  exact ⟨k, rfl, i64_of hw⟩
set_option maxRecDepth 100000 in
theorem open_str {H : Type} {enc : TypeId × Value → H} {w W : World} {base b0 : Nat} {sp : Nat → Bool} {held : Bool} {r : Reach} {n : Nat} {v : Value} {x : DataW H × List MemPlace} {t : TypeId} (ht : Tryz.prog.underlying t = some .string) (hok : Value.okWide Tryz.prog W r b0 t v)
    (h : DataW.trod enc Tryz.prog w base sp held n t v.cells.toList = some x) : ∃ s : ByteArray, v = .string s ∧ s.size ≤ 9223372036854775807 := by
  obtain ⟨s, rfl⟩ := okWide_string ht hok
  obtain ⟨s', e, _, hw⟩ := DataW.trod_string ht h
  simp [Value.cells] at e
  subst e
  exact ⟨s, rfl, hw⟩

/-- A start for the witness: the tables and the two sentinels as their initialisers lay them. -/
noncomputable def low : Nat := (World.holding Tryz.prog default ⟨#[], #[], []⟩).heap.size
def layErr (b : Nat) : Obj → Obj
  | .cells _ t frozen => .cells #[.iface 210 (.pointer (some ⟨b, 0, none⟩))] t frozen
  | o => o
noncomputable def laidWorldE (os : Os) : World :=
  let w0 := World.holding Tryz.prog os ⟨#[.cells #[.string ⟨#[118, 97, 108, 117, 101, 32, 111, 117, 116, 32, 111, 102, 32, 114, 97, 110, 103, 101]⟩] 212, .cells #[.string ⟨#[105, 110, 118, 97, 108, 105, 100, 32, 115, 121, 110, 116, 97, 120]⟩] 212], #[], []⟩
  { w0 with heap := ((((w0.heap.modify 2 (layIn Rows.laid_internal_strconv_uint64pow10)).modify 5 (layIn Rows.laid_math_bits_deBruijn32tab)).modify 6 (layIn Rows.laid_math_bits_deBruijn64tab)).modify 4 (layErr low)).modify 3 (layErr (low + 1)) }
end

/-! ### Laid3 -/
section
open Go.ChangeShapes Go.WideShapes Go.ChangeAt Go.RowKit Go.Deep

theorem gSym : Tryz.prog.globalNamed "ordinal/lexer.symbols" = some 0 := by kernel_rfl
theorem gSymType : (Tryz.prog.globals[0]?).map (·.type) = some 129 := by kernel_rfl
theorem cellsStr : Tryz.prog.cellsOf 9 = 1 := by kernel_rfl
theorem cellsSym : Tryz.prog.cellsOf 129 = 12 := by kernel_rfl
theorem symData_eq : (Rows.laid_ordinal_lexer_symbols : DataW Unit) = .agg (symB.map fun b => .lit (.string b.data.toList)) := by kernel_rfl

theorem sym_of_laid {l : List (String × DataW Unit)} {W : World} (hm : ("ordinal/lexer.symbols", Rows.laid_ordinal_lexer_symbols) ∈ l) (hp : (l.all fun x => x.2.handleName?.isNone) = true) (h : laidMetH Tryz.prog l W) : SymAt W := by
  rw [MakeChecks.laidMetH_plain _ _ _ hp] at h
  obtain ⟨ps, hv, _⟩ := h
  obtain ⟨g, t, cs, fuel, p, h1, h2, h3, h4⟩ := laidVars_reads hv _ _ hm
  obtain rfl := Option.some.inj (gSym.symm.trans h1)
  obtain rfl := Option.some.inj (gSymType.symm.trans h2)
  rw [symData_eq] at h4
  obtain ⟨xs, m, _, hx, hcl, hxl, hf⟩ := DataW.trod_array Tryz.underlying129 h4
  rw [cellsSym] at hcl
  rw [cellsStr] at hf
  have hxs : xs.map (·.1) = symB.map fun b => (DataW.lit (.string b.data.toList) : DataW Unit) := by
    have := congrArg Prod.fst hx
    injection this with this
    exact this.symm
  intro j hj
  have hcj : W.cell? ⟨0, j, none⟩ = cs[j]? := World.var?_cell gSym h3 j
  rw [hcj]
  have e1 := hf j hj
  rw [Nat.mul_one] at e1
  have hjl : j < cs.toList.length := by rw [hcl]; exact hj
  have e2 : (cs.toList.drop j).take 1 = [cs.toList[j]] := by
    rw [List.drop_eq_getElem_cons hjl]; rfl
  rw [e2, List.getElem?_eq_getElem (by rw [hxl]; exact hj)] at e1
  obtain ⟨s, es, ex, _⟩ := DataW.trod_string Tryz.underlying9 e1
  injection es with es
  have ey : (xs.map (·.1))[j]? = some (DataW.lit (.string s.data.toList) : DataW Unit) := by
    rw [List.getElem?_map, List.getElem?_eq_getElem (by rw [hxl]; exact hj), ex]; rfl
  rw [hxs, List.getElem?_map, List.getElem?_eq_getElem (show j < symB.length from hj)] at ey
  have ez : (symB[j]'hj).data.toList = s.data.toList := by
    simp only [Option.map_some, Option.some.injEq] at ey
    injection ey with ey
    injection ey
  have hs : s = symB[j]'hj := ByteArray.ext (Array.toList_inj.1 ez.symm)
  rw [← hs, ← es]
  simp [Array.getElem?_eq_getElem (show j < cs.size by simpa using hjl)]

theorem envL_of_laid {l r : List (String × DataW Unit)} {W : World} {a b c d : String × DataW Unit} (hl : l = a :: b :: c :: d :: r) (hd : d = ("strconv.ErrRange", Rows.laid_strconv_ErrRange)) (hm : ("internal/strconv.uint64pow10", Rows.laid_internal_strconv_uint64pow10) ∈ l) (hm2 : ("ordinal/lexer.symbols", Rows.laid_ordinal_lexer_symbols) ∈ l) (hp : (l.all fun x => x.2.handleName?.isNone) = true) (h : laidMetH Tryz.prog l W) : EnvL W := by
  refine ⟨⟨tab_of_laid hm hp h, ?_⟩, sym_of_laid hm2 hp h⟩
  rw [MakeChecks.laidMetH_plain _ _ _ hp] at h
  subst hl hd
  obtain ⟨a0, s0, hv, _⟩ := laid_sentinel h.tail.tail.tail gErr gErrType Tryz.underlying60 nameErr Tryz.underlying210 Tryz.underlying212 rfl rfl Tryz.underlying9 (by kernel_rfl) (by kernel_rfl)
  exact ⟨_, _, by simpa using World.var?_cell gErr hv 0⟩

set_option maxRecDepth 100000 in
theorem open_u8 {H : Type} {enc : TypeId × Value → H} {w W : World} {base b0 : Nat} {sp : Nat → Bool} {held : Bool} {r : Reach} {n : Nat} {v : Value} {x : DataW H × List MemPlace} {t : TypeId} (ht : Tryz.prog.underlying t = some (.int .u8)) (hok : Value.okWide Tryz.prog W r b0 t v)
    (h : DataW.trod enc Tryz.prog w base sp held n t v.cells.toList = some x) : ∃ k : Nat, v = .int .u8 k ∧ k < 256 := by
  obtain ⟨k, rfl⟩ := okWide_int ht hok
  obtain ⟨k', e, _, hw⟩ := DataW.trod_int ht h
  simp [Value.cells] at e
  subst e
  simp [Lit.wf, IntKind.min, IntKind.max, IntKind.signed, IntKind.bits] at hw
  exact ⟨k.toNat, by rw [Int.toNat_of_nonneg (by omega)], by omega⟩

/-- A start for the witness: the symbols too. -/
def layStrs (d : DataW Unit) : Obj → Obj
  | .cells _ t frozen => .cells (match d with | .agg l => (l.map fun | .lit (.string b) => Value.string ⟨b.toArray⟩ | _ => undef).toArray | _ => #[]) t frozen
  | o => o
noncomputable def laidWorldL (os : Os) : World := { laidWorldE os with heap := (laidWorldE os).heap.modify 0 (layStrs Rows.laid_ordinal_lexer_symbols) }
end
end Go.Proofs.YtnbacdmlaedppaaGreatDoor
