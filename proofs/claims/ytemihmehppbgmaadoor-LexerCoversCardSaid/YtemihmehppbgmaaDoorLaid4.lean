/-
  WHAT THE ROW OF LexerCovers LISTS: two tables of unicode/utf8 more.
-/
import Derived.Test.YtemihmehppbgmaaDoorLaid3
namespace Go.Proofs.YtemihmehppbgmaaDoor
open Go.ChangeShapes Go.WideShapes Go.ChangeAt Go.RowKit Go.Deep

theorem envL_of_laid5 {l r : List (String × DataW Unit)} {W : World} {a b c d e : String × DataW Unit} (hl : l = a :: b :: c :: d :: e :: r) (hd : e = ("strconv.ErrRange", Rows.laid_strconv_ErrRange)) (hm : ("internal/strconv.uint64pow10", Rows.laid_internal_strconv_uint64pow10) ∈ l) (hm2 : ("ordinal/lexer.symbols", Rows.laid_ordinal_lexer_symbols) ∈ l) (hp : (l.all fun x => x.2.handleName?.isNone) = true) (h : laidMetH Tryd.prog l W) : EnvL W := by
  refine ⟨⟨tab_of_laid hm hp h, ?_⟩, sym_of_laid hm2 hp h⟩
  rw [MakeChecks.laidMetH_plain _ _ _ hp] at h
  subst hl hd
  obtain ⟨a0, s0, hv, _⟩ := laid_sentinel h.tail.tail.tail.tail gErr gErrType Tryd.underlying65 nameErr Tryd.underlying143 Tryd.underlying145 rfl rfl Tryd.underlying9 (by kernel_rfl) (by kernel_rfl)
  exact ⟨_, _, by simpa using World.var?_cell gErr hv 0⟩

def cells2 : DataW Unit → Array Value
  | .agg l => (l.flatMap fun
    | .lit (.int k n) => [Value.int k n]
    | .agg m => m.map fun
      | .lit (.int k n) => Value.int k n
      | _ => undef
    | _ => [undef]).toArray
  | _ => #[]
def lay2 (d : DataW Unit) : Obj → Obj
  | .cells _ t frozen => .cells (cells2 d) t frozen
  | o => o
noncomputable def laidWorldC (os : Os) : World := { laidWorldL os with heap := ((laidWorldL os).heap.modify 4 (lay2 Rows.laid_unicode_utf8_acceptRanges)).modify 3 (lay2 Rows.laid_unicode_utf8_first) }
end Go.Proofs.YtemihmehppbgmaaDoor
