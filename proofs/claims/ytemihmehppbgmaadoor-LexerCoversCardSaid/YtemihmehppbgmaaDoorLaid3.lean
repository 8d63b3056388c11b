/-
  WHAT THE ROWS' LISTED VARIABLES GIVE in chapter 18: the tables, strconv.ErrRange, the symbols.
-/
import Derived.Test.YtemihmehppbgmaaDoorLaid2
import Derived.Test.YtemihmehppbgmaaDoorLwS
namespace Go.Proofs.YtemihmehppbgmaaDoor
open Go.ChangeShapes Go.WideShapes Go.ChangeAt Go.RowKit Go.Deep

theorem gSym : Tryd.prog.globalNamed "ordinal/lexer.symbols" = some 0 := by kernel_rfl
theorem gSymType : (Tryd.prog.globals[0]?).map (·.type) = some 81 := by kernel_rfl
theorem cellsStr : Tryd.prog.cellsOf 9 = 1 := by kernel_rfl
theorem cellsSym : Tryd.prog.cellsOf 81 = 12 := by kernel_rfl
theorem symData_eq : (Rows.laid_ordinal_lexer_symbols : DataW Unit) = .agg (symB.map fun b => .lit (.string b.data.toList)) := by kernel_rfl

theorem sym_of_laid {l : List (String × DataW Unit)} {W : World} (hm : ("ordinal/lexer.symbols", Rows.laid_ordinal_lexer_symbols) ∈ l) (hp : (l.all fun x => x.2.handleName?.isNone) = true) (h : laidMetH Tryd.prog l W) : SymAt W := by
  rw [MakeChecks.laidMetH_plain _ _ _ hp] at h
  obtain ⟨ps, hv, _⟩ := h
  obtain ⟨g, t, cs, fuel, p, h1, h2, h3, h4⟩ := laidVars_reads hv _ _ hm
  obtain rfl := Option.some.inj (gSym.symm.trans h1)
  obtain rfl := Option.some.inj (gSymType.symm.trans h2)
  rw [symData_eq] at h4
  obtain ⟨xs, m, _, hx, hcl, hxl, hf⟩ := DataW.trod_array Tryd.underlying81 h4
  rw [cellsSym] at hcl
  rw [cellsStr] at hf
  have hxs : xs.map (·.1) = symB.map fun b => (DataW.lit (.string b.data.toList) : DataW Unit) := by
    have := congrArg Prod.fst hx
    injection this with this
    exact this.symm
  intro j hj
  have hcj : W.cell? ⟨0, j, none⟩ = cs[j]? := World.var?_cell gSym h3 j
  rw [hcj]
  have e1 := hf j hj
  rw [Nat.mul_one] at e1
  have hjl : j < cs.toList.length := by rw [hcl]; exact hj
  have e2 : (cs.toList.drop j).take 1 = [cs.toList[j]] := by
    rw [List.drop_eq_getElem_cons hjl]; rfl
  rw [e2, List.getElem?_eq_getElem (by rw [hxl]; exact hj)] at e1
  obtain ⟨s, es, ex, _⟩ := DataW.trod_string Tryd.underlying9 e1
  injection es with es
  have ey : (xs.map (·.1))[j]? = some (DataW.lit (.string s.data.toList) : DataW Unit) := by
    rw [List.getElem?_map, List.getElem?_eq_getElem (by rw [hxl]; exact hj), ex]; rfl
  rw [hxs, List.getElem?_map, List.getElem?_eq_getElem (show j < symB.length from hj)] at ey
  have ez : (symB[j]'hj).data.toList = s.data.toList := by
    simp only [Option.map_some, Option.some.injEq] at ey
    injection ey with ey
    injection ey
  have hs : s = symB[j]'hj := ByteArray.ext (Array.toList_inj.1 ez.symm)
  rw [← hs, ← es]
  simp [Array.getElem?_eq_getElem (show j < cs.size by simpa using hjl)]

theorem envL_of_laid {l r : List (String × DataW Unit)} {W : World} {a b c d : String × DataW Unit} (hl : l = a :: b :: c :: d :: r) (hd : d = ("strconv.ErrRange", Rows.laid_strconv_ErrRange)) (hm : ("internal/strconv.uint64pow10", Rows.laid_internal_strconv_uint64pow10) ∈ l) (hm2 : ("ordinal/lexer.symbols", Rows.laid_ordinal_lexer_symbols) ∈ l) (hp : (l.all fun x => x.2.handleName?.isNone) = true) (h : laidMetH Tryd.prog l W) : EnvL W := by
  refine ⟨⟨tab_of_laid hm hp h, ?_⟩, sym_of_laid hm2 hp h⟩
  rw [MakeChecks.laidMetH_plain _ _ _ hp] at h
  subst hl hd
  obtain ⟨a0, s0, hv, _⟩ := laid_sentinel h.tail.tail.tail gErr gErrType Tryd.underlying65 nameErr Tryd.underlying143 Tryd.underlying145 rfl rfl Tryd.underlying9 (by kernel_rfl) (by kernel_rfl)
  exact ⟨_, _, by simpa using World.var?_cell gErr hv 0⟩

set_option maxRecDepth 100000 in
theorem open_u8 {H : Type} {enc : TypeId × Value → H} {w W : World} {base b0 : Nat} {sp : Nat → Bool} {held : Bool} {r : Reach} {n : Nat} {v : Value} {x : DataW H × List MemPlace} {t : TypeId} (ht : Tryd.prog.underlying t = some (.int .u8)) (hok : Value.okWide Tryd.prog W r b0 t v)
    (h : DataW.trod enc Tryd.prog w base sp held n t v.cells.toList = some x) : ∃ k : Nat, v = .int .u8 k ∧ k < 256 := by
  obtain ⟨k, rfl⟩ := okWide_int ht hok
  obtain ⟨k', e, _, hw⟩ := DataW.trod_int ht h
  simp [Value.cells] at e
  subst e
  simp [Lit.wf, IntKind.min, IntKind.max, IntKind.signed, IntKind.bits] at hw
  exact ⟨k.toNat, by rw [Int.toNat_of_nonneg (by omega)], by omega⟩

/-- A start for the witness: the symbols too. -/
def layStrs (d : DataW Unit) : Obj → Obj
  | .cells _ t frozen => .cells (match d with | .agg l => (l.map fun | .lit (.string b) => Value.string ⟨b.toArray⟩ | _ => undef).toArray | _ => #[]) t frozen
  | o => o
noncomputable def laidWorldL (os : Os) : World := { laidWorldE os with heap := (laidWorldE os).heap.modify 0 (layStrs Rows.laid_ordinal_lexer_symbols) }
end Go.Proofs.YtemihmehppbgmaaDoor
