/-
  PARTS of a claim, merged by segs.py: NwAwk.
-/
import Derived.Test.YtggfcdhkgldbfaaN30
import Derived.Test.YtggfcdhkgldbfaaN32
namespace Go.Proofs.Ytggfcdhkgldbfaa
set_option linter.unusedSimpArgs false
set_option linter.unusedVariables false

/-! ### NwAwk -/
section
set_option linter.unusedSimpArgs false
open Go Go.Conc Go.RowKit Go.ConcR.Gen Cw

noncomputable def body9 : Code := Try.f9.body.getD .skip
noncomputable def ops9a : Array Oper := opsOf (lf (rt body9))
noncomputable def ops9b : Array Oper := opsOf (lf (rt (rt body9)))
abbrev fAw (T : Array Value) (k : List Item) : Frame := (base 9).at ⟨T, []⟩ k
abbrev strA : ByteArray := ⟨#[97]⟩
abbrev strB : ByteArray := ⟨#[98]⟩
abbrev strC : ByteArray := ⟨#[99]⟩
theorem strInfo : ∃ i, Try.prog.info? 9 = some i ∧ i.zero = some (.string .empty) ∧ i.size = 1 := by
  have h : (Try.prog.info? 9).map (fun i => (i.zero, i.size)) = some (some (.string .empty), 1) := by kernel_rfl
  obtain ⟨i, hi, hb⟩ := Option.map_eq_some_iff.1 h
  simp at hb
  exact ⟨i, hi, hb⟩
theorem rowInfo : ∃ i, Try.prog.info? 38 = some i ∧ i.zero = some (.slice none 0 0) ∧ i.size = 1 := by
  have h : (Try.prog.info? 38).map (fun i => (i.zero, i.size)) = some (some (.slice none 0 0), 1) := by kernel_rfl
  obtain ⟨i, hi, hb⟩ := Option.map_eq_some_iff.1 h
  simp at hb
  exact ⟨i, hi, hb⟩
theorem bI2 (x y : Int) (w : World) : (Instr.buildSlice 24 2 #[(0, .int .i64 x), (1, .int .i64 y)]).run Try.prog w = .ok (.slice (some ⟨w.heap.size, 0, none⟩) 2 2) (w.alloc (.cells #[.int .i64 x, .int .i64 y] 3)) := by
  obtain ⟨it, hit, h1, h2, _⟩ := intInfo
  refine run_buildSlice w _ _ 2 _ _ it _ (by kernel_rfl) hit h1 (by rw [h2]; omega) (by rw [h2]; omega) ?_
  rw [h2]
  kernel_rfl
theorem bI2E (x y : Int) (w : World) (es : Array Event) : (Instr.buildSlice 24 2 #[(0, .int .i64 x), (1, .int .i64 y)]).events Try.prog w es = es := by
  obtain ⟨it, hit, h1, h2, _⟩ := intInfo
  simp [Instr.buildSlice, go_sem, sizeOf, typeInfo, zeroValue, hit, h1, h2]
theorem bS2 (x y : ByteArray) (w : World) : (Instr.buildSlice 38 2 #[(0, .string x), (1, .string y)]).run Try.prog w = .ok (.slice (some ⟨w.heap.size, 0, none⟩) 2 2) (w.alloc (.cells #[.string x, .string y] 9)) := by
  obtain ⟨it, hit, h1, h2⟩ := strInfo
  refine run_buildSlice w _ _ 2 _ _ it _ (by kernel_rfl) hit h1 (by rw [h2]; omega) (by rw [h2]; omega) ?_
  rw [h2]
  kernel_rfl
theorem bS2E (x y : ByteArray) (w : World) (es : Array Event) : (Instr.buildSlice 38 2 #[(0, .string x), (1, .string y)]).events Try.prog w es = es := by
  obtain ⟨it, hit, h1, h2⟩ := strInfo
  simp [Instr.buildSlice, go_sem, sizeOf, typeInfo, zeroValue, hit, h1, h2]
theorem bS1 (x : ByteArray) (w : World) : (Instr.buildSlice 38 1 #[(0, .string x)]).run Try.prog w = .ok (.slice (some ⟨w.heap.size, 0, none⟩) 1 1) (w.alloc (.cells #[.string x] 9)) := by
  obtain ⟨it, hit, h1, h2⟩ := strInfo
  refine run_buildSlice w _ _ 1 _ _ it _ (by kernel_rfl) hit h1 (by rw [h2]; omega) (by rw [h2]; omega) ?_
  rw [h2]
  kernel_rfl
theorem bS1E (x : ByteArray) (w : World) (es : Array Event) : (Instr.buildSlice 38 1 #[(0, .string x)]).events Try.prog w es = es := by
  obtain ⟨it, hit, h1, h2⟩ := strInfo
  simp [Instr.buildSlice, go_sem, sizeOf, typeInfo, zeroValue, hit, h1, h2]
theorem bL2 (a b : Option Addr) (n c n' c' : Nat) (w : World) : (Instr.buildSlice 23 2 #[(0, .slice a n c), (1, .slice b n' c')]).run Try.prog w = .ok (.slice (some ⟨w.heap.size, 0, none⟩) 2 2) (w.alloc (.cells #[.slice a n c, .slice b n' c'] 38)) := by
  obtain ⟨it, hit, h1, h2⟩ := rowInfo
  refine run_buildSlice w _ _ 2 _ _ it _ (by kernel_rfl) hit h1 (by rw [h2]; omega) (by rw [h2]; omega) ?_
  rw [h2]
  kernel_rfl
theorem bL2E (a b : Option Addr) (n c n' c' : Nat) (w : World) (es : Array Event) : (Instr.buildSlice 23 2 #[(0, .slice a n c), (1, .slice b n' c')]).events Try.prog w es = es := by
  obtain ⟨it, hit, h1, h2⟩ := rowInfo
  simp [Instr.buildSlice, go_sem, sizeOf, typeInfo, zeroValue, hit, h1, h2]
section
variable {Sh : Loc → Prop} {W : World} {mn : Bool}
abbrev KnA (W : World) (pa sa sb sl : Nat) : World → Prop := Kn Vn W [(sl, Obj.cells #[.slice (some ⟨sa, 0, none⟩) 2 2, .slice (some ⟨sb, 0, none⟩) 1 1] 38 (0, 0)), (sb, Obj.cells #[.string strC] 9 (0, 0)), (sa, Obj.cells #[.string strA, .string strB] 9 (0, 0)), (pa, Obj.cells #[.int .i64 1, .int .i64 0] 3 (0, 0))]
set_option maxRecDepth 100000 in
set_option maxHeartbeats 2000000 in
/-- To the call of tasks. -/
theorem a_begin (cs : List Frame) (w : World) (hF : Kn Vn W [] w) :
    Goes Try.prog mn (Ext Vn) (HDq (Cx0 Sh)) (fun g w => ∃ pa sa sb sl T, (T.size = 22 ∧ T[4]? = some (.slice (some ⟨pa, 0, none⟩) 2 2) ∧ T[7]? = some (.slice (some ⟨sl, 0, none⟩) 2 2)) ∧ g = G (fAw T (.inRegion ops9a [4, 5, 6, 7, 8, 9, 10] :: .code (rt (rt body9)) :: [])) cs ∧ KnA W pa sa sb sl w) 20
      (G (fAw #[undef, undef, undef, undef, undef, undef, undef, undef, undef, undef, undef, undef, undef, undef, undef, undef, undef, undef, undef, undef, undef, undef] [.code body9]) cs) w := by
  simp only [fAw, ops9a, body9, inner, rt, lf, opsOf, Try.f9, Option.getD_some]
  refine Goes.step rfl (fun w hr => ?_)
  replace hF := (fun h r => Kn.rl (fun _ _ h => h) h r) hF hr
  clear hr
  rw [stepG_seq]
  simp only [goes_go]
  refine ⟨hdq_idle _ _, ?_⟩
  refine Goes.step rfl (fun w hr => ?_)
  replace hF := (fun h r => Kn.rl (fun _ _ h => h) h r) hF hr
  clear hr
  rw [stepG_region]
  simp only [goes_go, List.size_toArray, List.length_cons, List.length_nil, Nat.reduceAdd, Nat.zero_add, List.range, List.range.loop]
  refine ⟨hdq_idle _ _, ?_⟩
  refine Goes.step rfl (fun w hr => ?_)
  replace hF := (fun h r => Kn.rl (fun _ _ h => h) h r) hF hr
  clear hr
  refine goes_oper_k rfl rfl (by k_ne) (fun K hK => ?_)
  go_simp
  refine hK _ _ ⟨?_, ?_⟩
  · rw [listed_nil (by simp [go_sem])]; exact hdq_idle _ _
  clear hK K
  try walk_nrm
  refine Goes.step rfl (fun w hr => ?_)
  replace hF := (fun h r => Kn.rl (fun _ _ h => h) h r) hF hr
  clear hr
  rw [stepG_region_end]
  simp only [goes_go]
  refine ⟨hdq_idle _ _, ?_⟩
  refine Goes.step rfl (fun w hr => ?_)
  replace hF := (fun h r => Kn.rl (fun _ _ h => h) h r) hF hr
  clear hr
  rw [stepG_seq]
  simp only [goes_go]
  refine ⟨hdq_idle _ _, ?_⟩
  refine Goes.step rfl (fun w hr => ?_)
  replace hF := (fun h r => Kn.rl (fun _ _ h => h) h r) hF hr
  clear hr
  rw [stepG_region]
  simp only [goes_go, List.size_toArray, List.length_cons, List.length_nil, Nat.reduceAdd, Nat.zero_add, List.range, List.range.loop]
  refine ⟨hdq_idle _ _, ?_⟩
  refine Goes.step rfl (fun w hr => ?_)
  replace hF := (fun h r => Kn.rl (fun _ _ h => h) h r) hF hr
  clear hr
  have hm := bI2 1 0
  have hm' := bI2E 1 0
  refine goes_oper_k rfl rfl (by k_ne) (fun K hK => ?_)
  go_simp
  refine hK _ _ ⟨?_, ?_⟩
  · rw [listed_nil (by simp [go_sem, *])]
    exact al_hd (by simp)
  clear hK K
  try walk_nrm
  clear hm hm'
  replace hF := hF.alloc (Obj.cells #[.int .i64 1, .int .i64 0] 3 (0, 0))
  generalize w.heap.size = pa at *
  generalize w.alloc (Obj.cells #[.int .i64 1, .int .i64 0] 3 (0, 0)) = w at *
  refine Goes.step rfl (fun w hr => ?_)
  replace hF := (fun h r => Kn.rl (fun _ _ h => h) h r) hF hr
  clear hr
  have hm := bS2 strA strB
  have hm' := bS2E strA strB
  refine goes_oper_k rfl rfl (by k_ne) (fun K hK => ?_)
  go_simp
  refine hK _ _ ⟨?_, ?_⟩
  · rw [listed_nil (by simp [go_sem, *])]
    exact al_hd (by simp)
  clear hK K
  try walk_nrm
  clear hm hm'
  replace hF := hF.alloc (Obj.cells #[.string strA, .string strB] 9 (0, 0))
  generalize w.heap.size = sa at *
  generalize w.alloc (Obj.cells #[.string strA, .string strB] 9 (0, 0)) = w at *
  refine Goes.step rfl (fun w hr => ?_)
  replace hF := (fun h r => Kn.rl (fun _ _ h => h) h r) hF hr
  clear hr
  have hm := bS1 strC
  have hm' := bS1E strC
  refine goes_oper_k rfl rfl (by k_ne) (fun K hK => ?_)
  go_simp
  refine hK _ _ ⟨?_, ?_⟩
  · rw [listed_nil (by simp [go_sem, *])]
    exact al_hd (by simp)
  clear hK K
  try walk_nrm
  clear hm hm'
  replace hF := hF.alloc (Obj.cells #[.string strC] 9 (0, 0))
  generalize w.heap.size = sb at *
  generalize w.alloc (Obj.cells #[.string strC] 9 (0, 0)) = w at *
  refine Goes.step rfl (fun w hr => ?_)
  replace hF := (fun h r => Kn.rl (fun _ _ h => h) h r) hF hr
  clear hr
  have hm := bL2 (some ⟨sa, 0, none⟩) (some ⟨sb, 0, none⟩) 2 2 1 1
  have hm' := bL2E (some ⟨sa, 0, none⟩) (some ⟨sb, 0, none⟩) 2 2 1 1
  refine goes_oper_k rfl rfl (by k_ne) (fun K hK => ?_)
  go_simp
  refine hK _ _ ⟨?_, ?_⟩
  · rw [listed_nil (by simp [go_sem, *])]
    exact al_hd (by simp)
  clear hK K
  try walk_nrm
  clear hm hm'
  replace hF := hF.alloc (Obj.cells #[.slice (some ⟨sa, 0, none⟩) 2 2, .slice (some ⟨sb, 0, none⟩) 1 1] 38 (0, 0))
  generalize w.heap.size = sl at *
  generalize w.alloc (Obj.cells #[.slice (some ⟨sa, 0, none⟩) 2 2, .slice (some ⟨sb, 0, none⟩) 1 1] 38 (0, 0)) = w at *
  refine Goes.stop (fun w hr => ⟨pa, sa, sb, sl, _, ⟨?_, ?_, ?_⟩, rfl, hF.rl (fun _ _ h => h) hr⟩) <;> rfl
end
end
end Go.Proofs.Ytggfcdhkgldbfaa
