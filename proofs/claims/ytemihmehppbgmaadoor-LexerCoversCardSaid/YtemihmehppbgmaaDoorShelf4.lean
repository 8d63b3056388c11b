/-
  THE LIBRARY's CONTRACTS AT THIS PROGRAM, laid in plain words by the shelf's own tool; only those that are used.
-/
import Derived.Shelf.Strings.Trim
import Derived.Shelf.Strings.SlTrimAscii
import Derived.Test.YtemihmehppbgmaaDoorShelf3
namespace Go.Proofs
open Go.Shelf
def Tryd.lays160_ren : Go.Shelf.Ren := ⟨fun | 160 => 20 | 232 => 33 | 231 => 32 | 227 => 34 | 234 => 36 | 233 => 35 | 236 => 38 | 235 => 37 | 228 => 57 | 271 => 60 | 151 => 59 | 197 => 58 | 120 => 73 | 152 => 72 | 260 => 71 | 137 => 83 | 119 => 84 | 224 => 85 | 225 => 86 | 217 => 95 | 266 => 101 | n => n, fun | 9 => 9 | 4 => 4 | 3 => 3 | 5 => 5 | 117 => 73 | 116 => 72 | 0 => 0 | 124 => 76 | 21 => 21 | 105 => 91 | 46 => 57 | 119 => 117 | 139 => 120 | 138 => 119 | n => n, fun | 3 => 3 | 4 => 4 | n => n⟩
theorem Tryd.lays160 : Go.Proofs.Lays.n160 Tryd.prog Tryd.lays160_ren := {
  mixed := by kernel_rfl
  f119 := Tryd.func84.trans (congrArg some (by kernel_rfl))
  f120 := Tryd.func73.trans (congrArg some (by kernel_rfl))
  f137 := Tryd.func83.trans (congrArg some (by kernel_rfl))
  f151 := Tryd.func59.trans (congrArg some (by kernel_rfl))
  f152 := Tryd.func72.trans (congrArg some (by kernel_rfl))
  f160 := Tryd.func20.trans (congrArg some (by kernel_rfl))
  f197 := Tryd.func58.trans (congrArg some (by kernel_rfl))
  f217 := Tryd.func95.trans (congrArg some (by kernel_rfl))
  f224 := Tryd.func85.trans (congrArg some (by kernel_rfl))
  f225 := Tryd.func86.trans (congrArg some (by kernel_rfl))
  f227 := Tryd.func34.trans (congrArg some (by kernel_rfl))
  f228 := Tryd.func57.trans (congrArg some (by kernel_rfl))
  f231 := Tryd.func32.trans (congrArg some (by kernel_rfl))
  f232 := Tryd.func33.trans (congrArg some (by kernel_rfl))
  f233 := Tryd.func35.trans (congrArg some (by kernel_rfl))
  f234 := Tryd.func36.trans (congrArg some (by kernel_rfl))
  f235 := Tryd.func37.trans (congrArg some (by kernel_rfl))
  f236 := Tryd.func38.trans (congrArg some (by kernel_rfl))
  f260 := Tryd.func71.trans (congrArg some (by kernel_rfl))
  f266 := Tryd.func101.trans (congrArg some (by kernel_rfl))
  f271 := Tryd.func60.trans (congrArg some (by kernel_rfl))
  t0 := Tryd.underlying0
  a0 := Tryd.isAgg0
  z0 := Tryd.sizeOf0
  v0 := Tryd.zeroValue0
  t3 := Tryd.underlying3
  a3 := Tryd.isAgg3
  z3 := Tryd.sizeOf3
  v3 := Tryd.zeroValue3
  t4 := Tryd.underlying4
  a4 := Tryd.isAgg4
  z4 := Tryd.sizeOf4
  v4 := Tryd.zeroValue4
  t5 := Tryd.underlying5
  a5 := Tryd.isAgg5
  z5 := Tryd.sizeOf5
  v5 := Tryd.zeroValue5
  t9 := Tryd.underlying9
  a9 := Tryd.isAgg9
  z9 := Tryd.sizeOf9
  v9 := Tryd.zeroValue9
  t21 := Tryd.underlying21
  a21 := Tryd.isAgg21
  z21 := Tryd.sizeOf21
  v21 := Tryd.zeroValue21
  t46 := Tryd.underlying57
  a46 := Tryd.isAgg57
  z46 := Tryd.sizeOf57
  v46 := Tryd.zeroValue57
  t105 := Tryd.underlying91
  a105 := Tryd.isAgg91
  z105 := Tryd.sizeOf91
  v105 := Tryd.zeroValue91
  t116 := Tryd.underlying72
  a116 := Tryd.isAgg72
  z116 := Tryd.sizeOf72
  t117 := Tryd.underlying73
  a117 := Tryd.isAgg73
  z117 := Tryd.sizeOf73
  v117 := Tryd.zeroValue73
  t119 := Tryd.underlying117
  a119 := Tryd.isAgg117
  z119 := Tryd.sizeOf117
  t124 := Tryd.underlying76
  a124 := Tryd.isAgg76
  z124 := Tryd.sizeOf76
  v124 := Tryd.zeroValue76
  t138 := Tryd.underlying119
  a138 := Tryd.isAgg119
  z138 := Tryd.sizeOf119
  v138 := Tryd.zeroValue119
  t139 := Tryd.underlying120
  a139 := Tryd.isAgg120
  z139 := Tryd.sizeOf120
  v139 := Tryd.zeroValue120
  g3 := by kernel_rfl
  g4 := by kernel_rfl }
open Go.RowKit in
theorem Tryd.strings_Trim_one (s : ByteArray) (c : UInt8) (hc : c.toNat < 128) (w : World) (hs : s.size ≤ 9223372036854775807) :
    Calls Tryd.prog 20 #[.string s, .string ⟨#[c]⟩] w fun e w' => e = .returned (.string ⟨(Lib.trimB s.data.toList c).toArray⟩) ∧ (w' = w ∨ w' = w.drew) := Any.strings_Trim_one Tryd.lays160 s c hc w hs
open Go.RowKit in
theorem Tryd.strings_Trim_laid (s cutset : ByteArray) (w : World) (hs : s.size ≤ 9223372036854775807) (hcs : cutset.size < 4294967281)
    (hascii : ∀ (j : Nat) b, cutset.data.toList[j]? = some b → b.toNat < 128) :
    Calls Tryd.prog 20 #[.string s, .string cutset] w fun e w' => e = .returned (.string ⟨(Lib.trimS s.data.toList cutset.data.toList).toArray⟩) ∧ Below w.heap.size w w' :=
  Any.strings_Trim_laid Tryd.lays160 (by kernel_rfl) s cutset w hs hcs hascii
end Go.Proofs
