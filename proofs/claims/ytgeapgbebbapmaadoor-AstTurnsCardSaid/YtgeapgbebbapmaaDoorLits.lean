/-
  SMALL TOOLS: strings made of literal bytes; strings put together.
-/
import Derived.Test.YtgeapgbebbapmaaDoorKit
import Derived.Test.YtgeapgbebbapmaaDoorKit3
import Derived.Test.YtgeapgbebbapmaaDoorCoh
import Derived.Test.YtgeapgbebbapmaaDoorInfo
namespace Go.Proofs.YtgeapgbebbapmaaDoor
open Go.RowKit

/-- 'string([]byte{..})' of a literal row. -/
theorem run_lit_str {P : Program} {src dst e : TypeId} (hs : P.underlying src = some (.slice e)) (he : P.underlying e = some (.int .u8)) (hd : P.underlying dst = some .string) (w : World) (l : List UInt8) (cs : Array Value) (hc : cs = (Lib.byteCells l).toArray) (n c : Nat) (hn : n = l.length) :
    (convert src dst (.slice (some ⟨w.heap.size, 0, none⟩) n c)).run P (w.alloc (.cells cs e)) = .ok (.string ⟨l.toArray⟩) (w.alloc (.cells cs e)) := by
  subst hc hn
  refine run_convert_bytes_back _ src dst e ⟨w.heap.size, 0, none⟩ c l hs he hd fun j hj => ?_
  have : Addr.add ⟨w.heap.size, 0, none⟩ j = ⟨w.heap.size, j, none⟩ := by unfold Addr.add; by_cases hj : j = 0 <;> simp [hj]
  rw [this, cell_res' (heap_alloc_new w _)]
  simp [Lib.byteCells, hj]

theorem lit1 (w : World) (c : UInt8) (x : Int) (hx : x = c.toNat) :
    (convert 52 9 (.slice (some ⟨w.heap.size, 0, none⟩) 1 1)).run Tryd.prog (w.alloc (.cells #[.int .u8 x] 5)) = .ok (.string ⟨#[c]⟩) (w.alloc (.cells #[.int .u8 x] 5)) := by
  subst hx
  exact run_lit_str Tryd.underlying52 Tryd.underlying5 Tryd.underlying9 w [c] _ rfl _ _ rfl
theorem lit2 (w : World) (c d : UInt8) (x y : Int) (hx : x = c.toNat) (hy : y = d.toNat) :
    (convert 52 9 (.slice (some ⟨w.heap.size, 0, none⟩) 2 2)).run Tryd.prog (w.alloc (.cells #[.int .u8 x, .int .u8 y] 5)) = .ok (.string ⟨#[c, d]⟩) (w.alloc (.cells #[.int .u8 x, .int .u8 y] 5)) := by
  subst hx hy
  exact run_lit_str Tryd.underlying52 Tryd.underlying5 Tryd.underlying9 w [c, d] _ rfl _ _ rfl

theorem ret_cat {a b x : List UInt8} (h : a ++ b = x) : Ending.returned (.string (⟨a.toArray⟩ ++ ⟨b.toArray⟩)) = .returned (.string ⟨x.toArray⟩) := by
  subst h
  exact congrArg (fun a => Ending.returned (.string a)) (ByteArray.ext (by simp [ByteArray.data_append]))
theorem str_cat (a b : List UInt8) : Value.string (⟨a.toArray⟩ ++ ⟨b.toArray⟩) = .string ⟨(a ++ b).toArray⟩ :=
  congrArg Value.string (ByteArray.ext (by simp [ByteArray.data_append]))

end Go.Proofs.YtgeapgbebbapmaaDoor
