/-
  PARTS of a claim, merged by segs.py: Sk18, Sk21, Laid2.
-/
import Derived.Test.YtjhnopnppimnhaaGreatDoorZ21
import Derived.Test.YtjhnopnppimnhaaGreatDoorZ40
import Derived.Test.YtjhnopnppimnhaaGreatDoorZ07
import Derived.Test.YtjhnopnppimnhaaGreatDoorZ15
import Derived.Deep.RegionHeld3
import Derived.Stop.LaidErr
import Derived.Lay
import Derived.Deep.DeepHandedRow
namespace Go.Proofs.YtjhnopnppimnhaaGreatDoor

/-! ### Sk18 -/
section
open Go.RowKit

theorem infoShp6 : (Tryz.prog.info? 41).map (·.size) = some 5 := by kernel_rfl
abbrev ofZ : Obj := .cells #[.bool false, .bool false, .bool false, .slice none 0 0, .slice none 0 0] 41
def ofS (op : Nat) : Bool × Bool × Bool × Nat := match op with
  | 0 => (true, false, false, 0)
  | 1 => (true, true, false, 0)
  | 2 => (true, true, false, 0)
  | 6 => (false, false, false, 1)
  | 8 => (false, false, true, 1)
  | 9 => (false, false, false, 2)
  | 10 => (false, false, false, 2)
  | 11 => (false, true, false, 1)
  | 12 => (false, false, false, 1)
  | 13 => (false, false, true, 1)
  | 14 => (false, false, true, 3)
  | 15 => (false, false, true, 2)
  | 16 => (false, false, true, 2)
  | 17 => (false, false, true, 0)
  | 18 => (false, true, true, 1)
  | _ => (false, false, false, 0)
/-- What Of answers. -/
def RetOf (w : World) (f : Bool × Bool × Bool × Nat) (e : Ending) (w' : World) : Prop :=
  ∃ A c B d, e = .returned (.agg #[.bool f.1, .bool f.2.1, .bool f.2.2.1, .slice A f.2.2.2 c, .slice B f.2.2.2 d]) ∧ Below w.heap.size w w'
theorem of_first (w : World) (a b : Obj) : (((w.alloc ofZ).alloc a).alloc b).heap[w.heap.size]? = some ofZ := by
  rw [Below.heap_alloc _ _ _ (by simp; omega), Below.heap_alloc _ _ _ (by simp)]; exact heap_alloc_new w _
set_option maxRecDepth 100000 in
set_option maxHeartbeats 1000000 in
theorem of_0 (w : World) : Calls Tryz.prog 13 #[.int .i64 0] w (RetOf w (ofS 0)) := by
  have hz := heap_alloc_new w ofZ
  have k0 := below_one w ofZ
  go_enter Tryz.func13, Tryz.ntmps13
  go_wp2_with (refine wpList_stored2 rfl rfl rfl rfl hz infoShp6 rfl rfl ?_; intro w9 hz9 hg9)
  refine bodyPost_ret (by simp [results, Tryz.results13, go_sem, cell_res hz9]; rfl) rfl ?_
  exact ⟨_, _, _, _, rfl, k0.trans (grown_below' hg9 (Nat.le_refl _) (by simp))⟩
set_option maxRecDepth 100000 in
set_option maxHeartbeats 1000000 in
theorem of_1 (w : World) : Calls Tryz.prog 13 #[.int .i64 1] w (RetOf w (ofS 1)) := by
  have hz := heap_alloc_new w ofZ
  have k0 := below_one w ofZ
  go_enter Tryz.func13, Tryz.ntmps13
  go_wp2_with (refine wpList_stored2 rfl rfl rfl rfl hz infoShp6 rfl rfl ?_; intro w9 hz9 hg9)
  refine bodyPost_ret (by simp [results, Tryz.results13, go_sem, cell_res hz9]; rfl) rfl ?_
  exact ⟨_, _, _, _, rfl, k0.trans (grown_below' hg9 (Nat.le_refl _) (by simp))⟩
set_option maxRecDepth 100000 in
set_option maxHeartbeats 1000000 in
theorem of_2 (w : World) : Calls Tryz.prog 13 #[.int .i64 2] w (RetOf w (ofS 2)) := by
  have hz := heap_alloc_new w ofZ
  have k0 := below_one w ofZ
  go_enter Tryz.func13, Tryz.ntmps13
  go_wp2_with (refine wpList_stored2 rfl rfl rfl rfl hz infoShp6 rfl rfl ?_; intro w9 hz9 hg9)
  refine bodyPost_ret (by simp [results, Tryz.results13, go_sem, cell_res hz9]; rfl) rfl ?_
  exact ⟨_, _, _, _, rfl, k0.trans (grown_below' hg9 (Nat.le_refl _) (by simp))⟩
set_option maxRecDepth 100000 in
set_option maxHeartbeats 1000000 in
theorem of_3 (w : World) : Calls Tryz.prog 13 #[.int .i64 3] w (RetOf w (ofS 3)) := by
  have hz := heap_alloc_new w ofZ
  have k0 := below_one w ofZ
  go_enter Tryz.func13, Tryz.ntmps13
  go_wp2_with (refine wpList_stored2 rfl rfl rfl rfl hz infoShp6 rfl rfl ?_; intro w9 hz9 hg9)
  refine bodyPost_ret (by simp [results, Tryz.results13, go_sem, cell_res hz9]; rfl) rfl ?_
  exact ⟨_, _, _, _, rfl, k0.trans (grown_below' hg9 (Nat.le_refl _) (by simp))⟩
set_option maxRecDepth 100000 in
set_option maxHeartbeats 1000000 in
theorem of_4 (w : World) : Calls Tryz.prog 13 #[.int .i64 4] w (RetOf w (ofS 4)) := by
  have hz := heap_alloc_new w ofZ
  have k0 := below_one w ofZ
  go_enter Tryz.func13, Tryz.ntmps13
  go_wp2_with (refine wpList_stored2 rfl rfl rfl rfl hz infoShp6 rfl rfl ?_; intro w9 hz9 hg9)
  refine bodyPost_ret (by simp [results, Tryz.results13, go_sem, cell_res hz9]; rfl) rfl ?_
  exact ⟨_, _, _, _, rfl, k0.trans (grown_below' hg9 (Nat.le_refl _) (by simp))⟩
set_option maxRecDepth 100000 in
set_option maxHeartbeats 1000000 in
theorem of_5 (w : World) : Calls Tryz.prog 13 #[.int .i64 5] w (RetOf w (ofS 5)) := by
  have hz := heap_alloc_new w ofZ
  have k0 := below_one w ofZ
  go_enter Tryz.func13, Tryz.ntmps13
  go_wp2_with (refine wpList_stored2 rfl rfl rfl rfl hz infoShp6 rfl rfl ?_; intro w9 hz9 hg9)
  refine bodyPost_ret (by simp [results, Tryz.results13, go_sem, cell_res hz9]; rfl) rfl ?_
  exact ⟨_, _, _, _, rfl, k0.trans (grown_below' hg9 (Nat.le_refl _) (by simp))⟩
set_option maxRecDepth 100000 in
set_option maxHeartbeats 1000000 in
theorem of_6 (w : World) : Calls Tryz.prog 13 #[.int .i64 6] w (RetOf w (ofS 6)) := by
  have hz := heap_alloc_new w ofZ
  have k0 := below_one w ofZ
  obtain ⟨W, hW⟩ : ∃ W, (((w.alloc ofZ).alloc (.cells #[.int .i64 0] 2)).alloc (.cells #[.int .i64 9223372036854775807] 2)) = W := ⟨_, rfl⟩
  have hz2 : W.heap[w.heap.size]? = some ofZ := by rw [← hW]; exact of_first w _ _
  have kb : Below w.heap.size w W := by rw [← hW]; exact below_three w _ _ _
  have HW := hid hW
  clear hW hz k0
  go_enter Tryz.func13, Tryz.ntmps13
  go_wp2_with (rw [HW.out]; refine wpList_stored2 rfl rfl rfl rfl hz2 infoShp6 rfl rfl ?_; intro w9 hz9 hg9)
  refine bodyPost_ret (by simp [results, Tryz.results13, go_sem, cell_res hz9]; rfl) rfl ?_
  exact ⟨_, _, _, _, rfl, kb.trans (grown_below' hg9 (Nat.le_refl _) kb.size)⟩
set_option maxRecDepth 100000 in
set_option maxHeartbeats 1000000 in
theorem of_7 (w : World) : Calls Tryz.prog 13 #[.int .i64 7] w (RetOf w (ofS 7)) := by
  have hz := heap_alloc_new w ofZ
  have k0 := below_one w ofZ
  go_enter Tryz.func13, Tryz.ntmps13
  go_wp2_with (refine wpList_stored2 rfl rfl rfl rfl hz infoShp6 rfl rfl ?_; intro w9 hz9 hg9)
  refine bodyPost_ret (by simp [results, Tryz.results13, go_sem, cell_res hz9]; rfl) rfl ?_
  exact ⟨_, _, _, _, rfl, k0.trans (grown_below' hg9 (Nat.le_refl _) (by simp))⟩
set_option maxRecDepth 100000 in
set_option maxHeartbeats 1000000 in
theorem of_8 (w : World) : Calls Tryz.prog 13 #[.int .i64 8] w (RetOf w (ofS 8)) := by
  have hz := heap_alloc_new w ofZ
  have k0 := below_one w ofZ
  obtain ⟨W, hW⟩ : ∃ W, (((w.alloc ofZ).alloc (.cells #[.int .i64 (-1)] 2)).alloc (.cells #[.int .i64 9223372036854775807] 2)) = W := ⟨_, rfl⟩
  have hz2 : W.heap[w.heap.size]? = some ofZ := by rw [← hW]; exact of_first w _ _
  have kb : Below w.heap.size w W := by rw [← hW]; exact below_three w _ _ _
  have HW := hid hW
  clear hW hz k0
  go_enter Tryz.func13, Tryz.ntmps13
  go_wp2_with (rw [HW.out]; refine wpList_stored2 rfl rfl rfl rfl hz2 infoShp6 rfl rfl ?_; intro w9 hz9 hg9)
  refine bodyPost_ret (by simp [results, Tryz.results13, go_sem, cell_res hz9]; rfl) rfl ?_
  exact ⟨_, _, _, _, rfl, kb.trans (grown_below' hg9 (Nat.le_refl _) kb.size)⟩
set_option maxRecDepth 100000 in
set_option maxHeartbeats 1000000 in
theorem of_9 (w : World) : Calls Tryz.prog 13 #[.int .i64 9] w (RetOf w (ofS 9)) := by
  have hz := heap_alloc_new w ofZ
  have k0 := below_one w ofZ
  obtain ⟨W, hW⟩ : ∃ W, (((w.alloc ofZ).alloc (.cells #[.int .i64 0, .int .i64 0] 2)).alloc (.cells #[.int .i64 9223372036854775807, .int .i64 1000] 2)) = W := ⟨_, rfl⟩
  have hz2 : W.heap[w.heap.size]? = some ofZ := by rw [← hW]; exact of_first w _ _
  have kb : Below w.heap.size w W := by rw [← hW]; exact below_three w _ _ _
  have HW := hid hW
  clear hW hz k0
  go_enter Tryz.func13, Tryz.ntmps13
  go_wp2_with (rw [HW.out]; refine wpList_stored2 rfl rfl rfl rfl hz2 infoShp6 rfl rfl ?_; intro w9 hz9 hg9)
  refine bodyPost_ret (by simp [results, Tryz.results13, go_sem, cell_res hz9]; rfl) rfl ?_
  exact ⟨_, _, _, _, rfl, kb.trans (grown_below' hg9 (Nat.le_refl _) kb.size)⟩
set_option maxRecDepth 100000 in
set_option maxHeartbeats 1000000 in
theorem of_10 (w : World) : Calls Tryz.prog 13 #[.int .i64 10] w (RetOf w (ofS 10)) := by
  have hz := heap_alloc_new w ofZ
  have k0 := below_one w ofZ
  obtain ⟨W, hW⟩ : ∃ W, (((w.alloc ofZ).alloc (.cells #[.int .i64 0, .int .i64 0] 2)).alloc (.cells #[.int .i64 9223372036854775807, .int .i64 9223372036854775807] 2)) = W := ⟨_, rfl⟩
  have hz2 : W.heap[w.heap.size]? = some ofZ := by rw [← hW]; exact of_first w _ _
  have kb : Below w.heap.size w W := by rw [← hW]; exact below_three w _ _ _
  have HW := hid hW
  clear hW hz k0
  go_enter Tryz.func13, Tryz.ntmps13
  go_wp2_with (rw [HW.out]; refine wpList_stored2 rfl rfl rfl rfl hz2 infoShp6 rfl rfl ?_; intro w9 hz9 hg9)
  refine bodyPost_ret (by simp [results, Tryz.results13, go_sem, cell_res hz9]; rfl) rfl ?_
  exact ⟨_, _, _, _, rfl, kb.trans (grown_below' hg9 (Nat.le_refl _) kb.size)⟩
set_option maxRecDepth 100000 in
set_option maxHeartbeats 1000000 in
theorem of_11 (w : World) : Calls Tryz.prog 13 #[.int .i64 11] w (RetOf w (ofS 11)) := by
  have hz := heap_alloc_new w ofZ
  have k0 := below_one w ofZ
  obtain ⟨W, hW⟩ : ∃ W, (((w.alloc ofZ).alloc (.cells #[.int .i64 0] 2)).alloc (.cells #[.int .i64 9223372036854775807] 2)) = W := ⟨_, rfl⟩
  have hz2 : W.heap[w.heap.size]? = some ofZ := by rw [← hW]; exact of_first w _ _
  have kb : Below w.heap.size w W := by rw [← hW]; exact below_three w _ _ _
  have HW := hid hW
  clear hW hz k0
  go_enter Tryz.func13, Tryz.ntmps13
  go_wp2_with (rw [HW.out]; refine wpList_stored2 rfl rfl rfl rfl hz2 infoShp6 rfl rfl ?_; intro w9 hz9 hg9)
  refine bodyPost_ret (by simp [results, Tryz.results13, go_sem, cell_res hz9]; rfl) rfl ?_
  exact ⟨_, _, _, _, rfl, kb.trans (grown_below' hg9 (Nat.le_refl _) kb.size)⟩
set_option maxRecDepth 100000 in
set_option maxHeartbeats 1000000 in
theorem of_12 (w : World) : Calls Tryz.prog 13 #[.int .i64 12] w (RetOf w (ofS 12)) := by
  have hz := heap_alloc_new w ofZ
  have k0 := below_one w ofZ
  obtain ⟨W, hW⟩ : ∃ W, (((w.alloc ofZ).alloc (.cells #[.int .i64 0] 2)).alloc (.cells #[.int .i64 9223372036854775807] 2)) = W := ⟨_, rfl⟩
  have hz2 : W.heap[w.heap.size]? = some ofZ := by rw [← hW]; exact of_first w _ _
  have kb : Below w.heap.size w W := by rw [← hW]; exact below_three w _ _ _
  have HW := hid hW
  clear hW hz k0
  go_enter Tryz.func13, Tryz.ntmps13
  go_wp2_with (rw [HW.out]; refine wpList_stored2 rfl rfl rfl rfl hz2 infoShp6 rfl rfl ?_; intro w9 hz9 hg9)
  refine bodyPost_ret (by simp [results, Tryz.results13, go_sem, cell_res hz9]; rfl) rfl ?_
  exact ⟨_, _, _, _, rfl, kb.trans (grown_below' hg9 (Nat.le_refl _) kb.size)⟩
set_option maxRecDepth 100000 in
set_option maxHeartbeats 1000000 in
theorem of_13 (w : World) : Calls Tryz.prog 13 #[.int .i64 13] w (RetOf w (ofS 13)) := by
  have hz := heap_alloc_new w ofZ
  have k0 := below_one w ofZ
  obtain ⟨W, hW⟩ : ∃ W, (((w.alloc ofZ).alloc (.cells #[.int .i64 (-1)] 2)).alloc (.cells #[.int .i64 9223372036854775807] 2)) = W := ⟨_, rfl⟩
  have hz2 : W.heap[w.heap.size]? = some ofZ := by rw [← hW]; exact of_first w _ _
  have kb : Below w.heap.size w W := by rw [← hW]; exact below_three w _ _ _
  have HW := hid hW
  clear hW hz k0
  go_enter Tryz.func13, Tryz.ntmps13
  go_wp2_with (rw [HW.out]; refine wpList_stored2 rfl rfl rfl rfl hz2 infoShp6 rfl rfl ?_; intro w9 hz9 hg9)
  refine bodyPost_ret (by simp [results, Tryz.results13, go_sem, cell_res hz9]; rfl) rfl ?_
  exact ⟨_, _, _, _, rfl, kb.trans (grown_below' hg9 (Nat.le_refl _) kb.size)⟩
set_option maxRecDepth 100000 in
set_option maxHeartbeats 1000000 in
theorem of_14 (w : World) : Calls Tryz.prog 13 #[.int .i64 14] w (RetOf w (ofS 14)) := by
  have hz := heap_alloc_new w ofZ
  have k0 := below_one w ofZ
  obtain ⟨W, hW⟩ : ∃ W, (((w.alloc ofZ).alloc (.cells #[.int .i64 0, .int .i64 0, .int .i64 (-1)] 2)).alloc (.cells #[.int .i64 9223372036854775807, .int .i64 9223372036854775807, .int .i64 9223372036854775807] 2)) = W := ⟨_, rfl⟩
  have hz2 : W.heap[w.heap.size]? = some ofZ := by rw [← hW]; exact of_first w _ _
  have kb : Below w.heap.size w W := by rw [← hW]; exact below_three w _ _ _
  have HW := hid hW
  clear hW hz k0
  go_enter Tryz.func13, Tryz.ntmps13
  go_wp2_with (rw [HW.out]; refine wpList_stored2 rfl rfl rfl rfl hz2 infoShp6 rfl rfl ?_; intro w9 hz9 hg9)
  refine bodyPost_ret (by simp [results, Tryz.results13, go_sem, cell_res hz9]; rfl) rfl ?_
  exact ⟨_, _, _, _, rfl, kb.trans (grown_below' hg9 (Nat.le_refl _) kb.size)⟩
set_option maxRecDepth 100000 in
set_option maxHeartbeats 1000000 in
theorem of_15 (w : World) : Calls Tryz.prog 13 #[.int .i64 15] w (RetOf w (ofS 15)) := by
  have hz := heap_alloc_new w ofZ
  have k0 := below_one w ofZ
  obtain ⟨W, hW⟩ : ∃ W, (((w.alloc ofZ).alloc (.cells #[.int .i64 (-9223372036854775808), .int .i64 (-1)] 2)).alloc (.cells #[.int .i64 9223372036854775807, .int .i64 9223372036854775807] 2)) = W := ⟨_, rfl⟩
  have hz2 : W.heap[w.heap.size]? = some ofZ := by rw [← hW]; exact of_first w _ _
  have kb : Below w.heap.size w W := by rw [← hW]; exact below_three w _ _ _
  have HW := hid hW
  clear hW hz k0
  go_enter Tryz.func13, Tryz.ntmps13
  go_wp2_with (rw [HW.out]; refine wpList_stored2 rfl rfl rfl rfl hz2 infoShp6 rfl rfl ?_; intro w9 hz9 hg9)
  refine bodyPost_ret (by simp [results, Tryz.results13, go_sem, cell_res hz9]; rfl) rfl ?_
  exact ⟨_, _, _, _, rfl, kb.trans (grown_below' hg9 (Nat.le_refl _) kb.size)⟩
set_option maxRecDepth 100000 in
set_option maxHeartbeats 1000000 in
theorem of_16 (w : World) : Calls Tryz.prog 13 #[.int .i64 16] w (RetOf w (ofS 16)) := by
  have hz := heap_alloc_new w ofZ
  have k0 := below_one w ofZ
  obtain ⟨W, hW⟩ : ∃ W, (((w.alloc ofZ).alloc (.cells #[.int .i64 0, .int .i64 0] 2)).alloc (.cells #[.int .i64 9223372036854775807, .int .i64 9223372036854775807] 2)) = W := ⟨_, rfl⟩
  have hz2 : W.heap[w.heap.size]? = some ofZ := by rw [← hW]; exact of_first w _ _
  have kb : Below w.heap.size w W := by rw [← hW]; exact below_three w _ _ _
  have HW := hid hW
  clear hW hz k0
  go_enter Tryz.func13, Tryz.ntmps13
  go_wp2_with (rw [HW.out]; refine wpList_stored2 rfl rfl rfl rfl hz2 infoShp6 rfl rfl ?_; intro w9 hz9 hg9)
  refine bodyPost_ret (by simp [results, Tryz.results13, go_sem, cell_res hz9]; rfl) rfl ?_
  exact ⟨_, _, _, _, rfl, kb.trans (grown_below' hg9 (Nat.le_refl _) kb.size)⟩
set_option maxRecDepth 100000 in
set_option maxHeartbeats 1000000 in
theorem of_17 (w : World) : Calls Tryz.prog 13 #[.int .i64 17] w (RetOf w (ofS 17)) := by
  have hz := heap_alloc_new w ofZ
  have k0 := below_one w ofZ
  go_enter Tryz.func13, Tryz.ntmps13
  go_wp2_with (refine wpList_stored2 rfl rfl rfl rfl hz infoShp6 rfl rfl ?_; intro w9 hz9 hg9)
  refine bodyPost_ret (by simp [results, Tryz.results13, go_sem, cell_res hz9]; rfl) rfl ?_
  exact ⟨_, _, _, _, rfl, k0.trans (grown_below' hg9 (Nat.le_refl _) (by simp))⟩
set_option maxRecDepth 100000 in
set_option maxHeartbeats 1000000 in
theorem of_18 (w : World) : Calls Tryz.prog 13 #[.int .i64 18] w (RetOf w (ofS 18)) := by
  have hz := heap_alloc_new w ofZ
  have k0 := below_one w ofZ
  obtain ⟨W, hW⟩ : ∃ W, (((w.alloc ofZ).alloc (.cells #[.int .i64 (-1)] 2)).alloc (.cells #[.int .i64 9223372036854775807] 2)) = W := ⟨_, rfl⟩
  have hz2 : W.heap[w.heap.size]? = some ofZ := by rw [← hW]; exact of_first w _ _
  have kb : Below w.heap.size w W := by rw [← hW]; exact below_three w _ _ _
  have HW := hid hW
  clear hW hz k0
  go_enter Tryz.func13, Tryz.ntmps13
  go_wp2_with (rw [HW.out]; refine wpList_stored2 rfl rfl rfl rfl hz2 infoShp6 rfl rfl ?_; intro w9 hz9 hg9)
  refine bodyPost_ret (by simp [results, Tryz.results13, go_sem, cell_res hz9]; rfl) rfl ?_
  exact ⟨_, _, _, _, rfl, kb.trans (grown_below' hg9 (Nat.le_refl _) kb.size)⟩
set_option maxRecDepth 100000 in
set_option maxHeartbeats 1000000 in
theorem of_19 (w : World) : Calls Tryz.prog 13 #[.int .i64 19] w (RetOf w (ofS 19)) := by
  have hz := heap_alloc_new w ofZ
  have k0 := below_one w ofZ
  go_enter Tryz.func13, Tryz.ntmps13
  go_wp2_with (refine wpList_stored2 rfl rfl rfl rfl hz infoShp6 rfl rfl ?_; intro w9 hz9 hg9)
  refine bodyPost_ret (by simp [results, Tryz.results13, go_sem, cell_res hz9]; rfl) rfl ?_
  exact ⟨_, _, _, _, rfl, k0.trans (grown_below' hg9 (Nat.le_refl _) (by simp))⟩
theorem ref_of {op : Nat} (h : op < 20) (w : World) : Calls Tryz.prog 13 #[.int .i64 op] w (RetOf w (ofS op)) := by
  obtain rfl | rfl | rfl | rfl | rfl | rfl | rfl | rfl | rfl | rfl | rfl | rfl | rfl | rfl | rfl | rfl | rfl | rfl | rfl | rfl : op = 0 ∨ op = 1 ∨ op = 2 ∨ op = 3 ∨ op = 4 ∨ op = 5 ∨ op = 6 ∨ op = 7 ∨ op = 8 ∨ op = 9 ∨ op = 10 ∨ op = 11 ∨ op = 12 ∨ op = 13 ∨ op = 14 ∨ op = 15 ∨ op = 16 ∨ op = 17 ∨ op = 18 ∨ op = 19 := by omega
  · exact of_0 w
  · exact of_1 w
  · exact of_2 w
  · exact of_3 w
  · exact of_4 w
  · exact of_5 w
  · exact of_6 w
  · exact of_7 w
  · exact of_8 w
  · exact of_9 w
  · exact of_10 w
  · exact of_11 w
  · exact of_12 w
  · exact of_13 w
  · exact of_14 w
  · exact of_15 w
  · exact of_16 w
  · exact of_17 w
  · exact of_18 w
  · exact of_19 w
end

/-! ### Sk21 -/
section
open Go.RowKit

theorem argB_of : ∀ i : Fin 20, argB i.val = ((ofS i.val).1 || ((ofS i.val).2.1 || ((ofS i.val).2.2.1 || decide (0 < (ofS i.val).2.2.2)))) := by decide
theorem nam_size : ∀ i : Fin 20, (namB[i.val]'i.isLt).size ≤ 20 := by decide
theorem nam_data (i : Nat) (h : i < 20) (t : ByteArray) : ((namB[i]'h) ++ t).data.toList = nam6.getD i [] ++ t.data.toList := by
  have e : ∀ i : Fin 20, (namB[i.val]'i.isLt).data.toList = nam6.getD i.val [] := by decide
  have := e ⟨i, h⟩
  rw [ByteArray.data_append, Array.toList_append]
  simp only at this
  rw [this]
theorem op_namB (i : Nat) (h : i < 20) : opName (i : Int) = namB[i]'h := by
  unfold opName
  rw [if_pos (by omega), Int.toNat_natCast, List.getD_eq_getElem?_getD, List.getElem?_eq_getElem h]; rfl
set_option maxRecDepth 100000 in
set_option maxHeartbeats 8000000 in
theorem law_names60 (op : Int) (hi : I64 op) (w : World) (hE : EnvS w) : Calls Tryz.prog 5 #[.int .i64 op] w fun e w' => e = .returned (.bool true) ∧ Below w.heap.size w w' := by
  have HAw := hid (awake60 w hE)
  have HNs := hid (fun W => names60 W)
  by_cases hin : 0 ≤ op ∧ op < 20
  · obtain ⟨k, rfl⟩ : ∃ k : Nat, op = k := ⟨op.toNat, by omega⟩
    have hk : k < 20 := by omega
    obtain ⟨NB, hNB⟩ : ∃ NB, namB[k]'hk = NB := ⟨_, rfl⟩
    have hNs : NB.size ≤ 20 := by rw [← hNB]; exact nam_size ⟨k, hk⟩
    have hdat := fun t => nam_data k hk t
    rw [hNB] at hdat
    have HNm := hid (fun W (q : Below w.heap.size w W) => (scr_name (k : Int) W (hE.nam.below q) hi (by rw [op_namB k hk, hNB])))
    obtain ⟨⟨l, n, e⟩, hX⟩ : ∃ X, scriptS (nam6.getD k [] ++ [10]) = X := ⟨_, rfl⟩
    have HP := hid (fun W (q : Below w.heap.size w W) => scr_parse (NB ++ ⟨#[10]⟩) W (hE.below q) (x := (l, n, e)) (by rw [hdat]; exact hX))
    have hal := nam_alone ⟨k, hk⟩
    simp only [hX] at hal
    have HOf := hid (fun W => ref_of hk W)
    have hao := argB_of ⟨k, hk⟩
    simp only at hao
    obtain ⟨⟨nm, rw', qy, nn⟩, hof⟩ : ∃ y, ofS k = y := ⟨_, rfl⟩
    rw [hof] at HOf hao
    simp only at hao
    have hn1 : (0 : Int) ≤ k := by omega
    have hn2 : (k : Int) < 20 := by omega
    have hws : ¬ 9223372036854775807 < NB.size + 1 := by omega
    have hws3 : ¬ 9223372036854775807 < NB.size + 3 := by omega
    have HP3 := hid (fun W (q : Below w.heap.size w W) x hx => scr_parse (NB ++ ⟨#[32, 49, 10]⟩) W (hE.below q) (x := x) (by rw [hdat]; exact hx))
    clear hi hin hX hof hdat
    by_cases hargs : (nm || (rw' || (qy || decide (0 < nn)))) = true
    · obtain ⟨ha1, ha2, ha3⟩ := hal.1 (hao.trans hargs)
      obtain rfl : l = [] := List.eq_nil_of_length_eq_zero ha3
      subst ha1 ha2
      clear hal hao ha3 HP3
      have hways : nm = true ∨ (nm = false ∧ rw' = true) ∨ (nm = false ∧ rw' = false ∧ qy = true) ∨ (nm = false ∧ rw' = false ∧ qy = false ∧ 0 < nn) := by
        cases nm <;> cases rw' <;> cases qy <;> simp_all
      clear hargs
      rcases hways with rfl | ⟨rfl, rfl⟩ | ⟨rfl, rfl, rfl⟩ | ⟨rfl, rfl, rfl, hnn⟩
      · go_enter Tryz.func5, Tryz.ntmps5
        go_wp2_with fail
        refine HAw.out.mono ?_
        rintro e w1 ⟨rfl, k1⟩
        clear HAw
        go_wp2_with fail
        refine (HNs.out _).mono ?_
        rintro e w2 ⟨rfl, hng, b2⟩
        have c2 := hng k hk
        rw [hNB] at c2
        have K2 := hid (k1.trans (b2.mono k1.size))
        have HP2 := hid (HP.out w2 K2.out)
        generalize w1.heap.size = g at *
        clear HNs b2 hng k1
        go_wp2_with fail
        refine HP2.out.mono ?_
        rintro e w3 ⟨A3, c3, rfl, ho3, -, b3⟩
        have K3 := hid (K2.out.trans (b3.mono K2.out.size))
        replace c2 := cell_keep b3 c2
        have HO3 := hid ho3
        clear HP2 b3 ho3
        go_wp2_with fail
        refine (HOf.out w3).mono ?_
        rintro e w4 ⟨A4, c4, B4, d4, rfl, b4⟩
        have K4 := hid (K3.out.trans (b4.mono K3.out.size))
        replace c2 := cell_keep b4 c2
        have HO4 := hid (HO3.out.below b4)
        clear b4 HOf HO3
        clear HO4
        have kx := below_one w4 (.cells #[.bool true, .bool rw', .bool qy, .slice A4 nn c4, .slice B4 nn d4] 41)
        have cx := cell_keep kx c2
        have hgl := cell_lt c2
        have HKx := hid (K4.out.trans (kx.mono K4.out.size))
        go_upto_region 9 with fail
        generalize (w4.alloc (.cells #[.bool true, .bool rw', .bool qy, .slice A4 nn c4, .slice B4 nn d4] 41)) = wx at *
        have hNB2 : (NB.toList == NB.toList) = true := by simp
        have F1 := fun p : BelowBy wx => by_cell cx p
        have HNq := fun p : BelowBy wx => hid ((HNm.out p.to (HKx.out.trans (p.le.mono HKx.out.size))).mono (R' := fun e w' => e = .returned (.string NB) ∧ Below p.to.heap.size p.to w') fun _ _ ⟨h1, h2⟩ => ⟨h1, h2 ▸ Below.refl _ _⟩)
        clear kx cx c2 HNm
        go_wp2_with fail
        refine wp_region_below (by kernel_rfl) (by kernel_rfl) ?_
        repeat (go_big_quiet_step (first | with_reducible exact calls_by (HNq _).out))
        refine wpQuiet_nil ?_
        rintro wq ⟨⟨wqx, kq⟩, rfl⟩
        go_wp2
        go_ret
        exact ⟨rfl, HKx.out.trans (kq.mono HKx.out.size)⟩
      · go_enter Tryz.func5, Tryz.ntmps5
        go_wp2_with fail
        refine HAw.out.mono ?_
        rintro e w1 ⟨rfl, k1⟩
        clear HAw
        go_wp2_with fail
        refine (HNs.out _).mono ?_
        rintro e w2 ⟨rfl, hng, b2⟩
        have c2 := hng k hk
        rw [hNB] at c2
        have K2 := hid (k1.trans (b2.mono k1.size))
        have HP2 := hid (HP.out w2 K2.out)
        generalize w1.heap.size = g at *
        clear HNs b2 hng k1
        go_wp2_with fail
        refine HP2.out.mono ?_
        rintro e w3 ⟨A3, c3, rfl, ho3, -, b3⟩
        have K3 := hid (K2.out.trans (b3.mono K2.out.size))
        replace c2 := cell_keep b3 c2
        have HO3 := hid ho3
        clear HP2 b3 ho3
        go_wp2_with fail
        refine (HOf.out w3).mono ?_
        rintro e w4 ⟨A4, c4, B4, d4, rfl, b4⟩
        have K4 := hid (K3.out.trans (b4.mono K3.out.size))
        replace c2 := cell_keep b4 c2
        have HO4 := hid (HO3.out.below b4)
        clear b4 HOf HO3
        clear HO4
        have kx := below_one w4 (.cells #[.bool false, .bool true, .bool qy, .slice A4 nn c4, .slice B4 nn d4] 41)
        have cx := cell_keep kx c2
        have hgl := cell_lt c2
        have HKx := hid (K4.out.trans (kx.mono K4.out.size))
        go_upto_region 9 with fail
        generalize (w4.alloc (.cells #[.bool false, .bool true, .bool qy, .slice A4 nn c4, .slice B4 nn d4] 41)) = wx at *
        have hNB2 : (NB.toList == NB.toList) = true := by simp
        have F1 := fun p : BelowBy wx => by_cell cx p
        have HNq := fun p : BelowBy wx => hid ((HNm.out p.to (HKx.out.trans (p.le.mono HKx.out.size))).mono (R' := fun e w' => e = .returned (.string NB) ∧ Below p.to.heap.size p.to w') fun _ _ ⟨h1, h2⟩ => ⟨h1, h2 ▸ Below.refl _ _⟩)
        clear kx cx c2 HNm
        go_wp2_with fail
        refine wp_region_below (by kernel_rfl) (by kernel_rfl) ?_
        repeat (go_big_quiet_step (first | with_reducible exact calls_by (HNq _).out))
        refine wpQuiet_nil ?_
        rintro wq ⟨⟨wqx, kq⟩, rfl⟩
        go_wp2
        go_ret
        exact ⟨rfl, HKx.out.trans (kq.mono HKx.out.size)⟩
      · go_enter Tryz.func5, Tryz.ntmps5
        go_wp2_with fail
        refine HAw.out.mono ?_
        rintro e w1 ⟨rfl, k1⟩
        clear HAw
        go_wp2_with fail
        refine (HNs.out _).mono ?_
        rintro e w2 ⟨rfl, hng, b2⟩
        have c2 := hng k hk
        rw [hNB] at c2
        have K2 := hid (k1.trans (b2.mono k1.size))
        have HP2 := hid (HP.out w2 K2.out)
        generalize w1.heap.size = g at *
        clear HNs b2 hng k1
        go_wp2_with fail
        refine HP2.out.mono ?_
        rintro e w3 ⟨A3, c3, rfl, ho3, -, b3⟩
        have K3 := hid (K2.out.trans (b3.mono K2.out.size))
        replace c2 := cell_keep b3 c2
        have HO3 := hid ho3
        clear HP2 b3 ho3
        go_wp2_with fail
        refine (HOf.out w3).mono ?_
        rintro e w4 ⟨A4, c4, B4, d4, rfl, b4⟩
        have K4 := hid (K3.out.trans (b4.mono K3.out.size))
        replace c2 := cell_keep b4 c2
        have HO4 := hid (HO3.out.below b4)
        clear b4 HOf HO3
        clear HO4
        have kx := below_one w4 (.cells #[.bool false, .bool false, .bool true, .slice A4 nn c4, .slice B4 nn d4] 41)
        have cx := cell_keep kx c2
        have hgl := cell_lt c2
        have HKx := hid (K4.out.trans (kx.mono K4.out.size))
        go_upto_region 9 with fail
        generalize (w4.alloc (.cells #[.bool false, .bool false, .bool true, .slice A4 nn c4, .slice B4 nn d4] 41)) = wx at *
        have hNB2 : (NB.toList == NB.toList) = true := by simp
        have F1 := fun p : BelowBy wx => by_cell cx p
        have HNq := fun p : BelowBy wx => hid ((HNm.out p.to (HKx.out.trans (p.le.mono HKx.out.size))).mono (R' := fun e w' => e = .returned (.string NB) ∧ Below p.to.heap.size p.to w') fun _ _ ⟨h1, h2⟩ => ⟨h1, h2 ▸ Below.refl _ _⟩)
        clear kx cx c2 HNm
        go_wp2_with fail
        refine wp_region_below (by kernel_rfl) (by kernel_rfl) ?_
        repeat (go_big_quiet_step (first | with_reducible exact calls_by (HNq _).out))
        refine wpQuiet_nil ?_
        rintro wq ⟨⟨wqx, kq⟩, rfl⟩
        go_wp2
        go_ret
        exact ⟨rfl, HKx.out.trans (kq.mono HKx.out.size)⟩
      · go_enter Tryz.func5, Tryz.ntmps5
        go_wp2_with fail
        refine HAw.out.mono ?_
        rintro e w1 ⟨rfl, k1⟩
        clear HAw
        go_wp2_with fail
        refine (HNs.out _).mono ?_
        rintro e w2 ⟨rfl, hng, b2⟩
        have c2 := hng k hk
        rw [hNB] at c2
        have K2 := hid (k1.trans (b2.mono k1.size))
        have HP2 := hid (HP.out w2 K2.out)
        generalize w1.heap.size = g at *
        clear HNs b2 hng k1
        go_wp2_with fail
        refine HP2.out.mono ?_
        rintro e w3 ⟨A3, c3, rfl, ho3, -, b3⟩
        have K3 := hid (K2.out.trans (b3.mono K2.out.size))
        replace c2 := cell_keep b3 c2
        have HO3 := hid ho3
        clear HP2 b3 ho3
        go_wp2_with fail
        refine (HOf.out w3).mono ?_
        rintro e w4 ⟨A4, c4, B4, d4, rfl, b4⟩
        have K4 := hid (K3.out.trans (b4.mono K3.out.size))
        replace c2 := cell_keep b4 c2
        have HO4 := hid (HO3.out.below b4)
        clear b4 HOf HO3
        clear HO4
        have hnn2 : (0 : Int) < nn := by omega
        have kx := below_one w4 (.cells #[.bool false, .bool false, .bool false, .slice A4 nn c4, .slice B4 nn d4] 41)
        have cx := cell_keep kx c2
        have hgl := cell_lt c2
        have HKx := hid (K4.out.trans (kx.mono K4.out.size))
        go_upto_region 9 with fail
        generalize (w4.alloc (.cells #[.bool false, .bool false, .bool false, .slice A4 nn c4, .slice B4 nn d4] 41)) = wx at *
        have hNB2 : (NB.toList == NB.toList) = true := by simp
        have F1 := fun p : BelowBy wx => by_cell cx p
        have HNq := fun p : BelowBy wx => hid ((HNm.out p.to (HKx.out.trans (p.le.mono HKx.out.size))).mono (R' := fun e w' => e = .returned (.string NB) ∧ Below p.to.heap.size p.to w') fun _ _ ⟨h1, h2⟩ => ⟨h1, h2 ▸ Below.refl _ _⟩)
        clear kx cx c2 HNm
        go_wp2_with fail
        refine wp_region_below (by kernel_rfl) (by kernel_rfl) ?_
        repeat (go_big_quiet_step (first | with_reducible exact calls_by (HNq _).out))
        refine wpQuiet_nil ?_
        rintro wq ⟨⟨wqx, kq⟩, rfl⟩
        go_wp2
        go_ret
        exact ⟨rfl, HKx.out.trans (kq.mono HKx.out.size)⟩
    · obtain ⟨ha1, ha2, ha3⟩ := hal.2 (hao.trans (by simpa using hargs))
      obtain ⟨⟨m, c⟩, rfl⟩ : ∃ y, l = [y] := by
        match l, ha2 with
        | [y], _ => exact ⟨y, rfl⟩
      have hcop : c.op = k := by simpa using ha2
      subst ha1
      obtain ⟨⟨l2, n2, e2⟩, hX2⟩ : ∃ X, scriptS (nam6.getD k [] ++ [32, 49, 10]) = X := ⟨_, rfl⟩
      rw [hX2] at ha3
      simp only at ha3
      subst ha3
      have HP4 := hid (fun W (q : Below w.heap.size w W) => HP3.out W q _ hX2)
      have hz : nm = false ∧ rw' = false ∧ qy = false ∧ nn = 0 := by
        cases nm <;> cases rw' <;> cases qy <;> simp_all
      obtain ⟨rfl, rfl, rfl, rfl⟩ := hz
      clear hal hao ha2 HP3 hX2 hargs
      go_enter Tryz.func5, Tryz.ntmps5
      go_wp2_with fail
      refine HAw.out.mono ?_
      rintro e w1 ⟨rfl, k1⟩
      clear HAw
      go_wp2_with fail
      refine (HNs.out _).mono ?_
      rintro e w2 ⟨rfl, hng, b2⟩
      have c2 := hng k hk
      rw [hNB] at c2
      have K2 := hid (k1.trans (b2.mono k1.size))
      have HP2 := hid (HP.out w2 K2.out)
      generalize w1.heap.size = g at *
      clear HNs b2 hng k1
      go_wp2_with fail
      refine HP2.out.mono ?_
      rintro e w3 ⟨A3, c3, rfl, ho3, -, b3⟩
      have K3 := hid (K2.out.trans (b3.mono K2.out.size))
      replace c2 := cell_keep b3 c2
      have HO3 := hid ho3
      clear HP2 b3 ho3
      go_wp2_with fail
      refine (HOf.out w3).mono ?_
      rintro e w4 ⟨A4, c4, B4, d4, rfl, b4⟩
      have K4 := hid (K3.out.trans (b4.mono K3.out.size))
      replace c2 := cell_keep b4 c2
      have HO4 := hid (HO3.out.below b4)
      clear b4 HOf HO3
      obtain ⟨A5, c5, e5, hcm5, -⟩ := own_cms HO4.out
      injection e5 with e5 _ e6
      subst e5 e6
      obtain ⟨bb, oo, rfl, hcs⟩ := hcm5 (by simp)
      obtain ⟨T0, t0, R0, r0, -, q1, -⟩ := hcs 0 (by simp)
      replace q1 : w4.cell? ⟨bb, oo + 1, none⟩ = some (.int .i64 c.op) := by simpa using q1
      rw [hcop] at q1
      clear hcs hcm5 HO4 hcop
      have kx := below_one w4 (.cells #[.bool false, .bool false, .bool false, .slice A4 0 c4, .slice B4 0 d4] 41)
      have cx := cell_keep kx c2
      have qx := cell_keep kx q1
      have hgl := cell_lt c2
      have HKx := hid (K4.out.trans (kx.mono K4.out.size))
      have HP5 := hid (HP4.out _ HKx.out)
      clear kx c2 q1 HP4
      go_wp2_with fail
      refine HP5.out.mono ?_
      rintro e w6 ⟨A6, c6, rfl, -, -, b6⟩
      have HK6 := hid (HKx.out.trans (b6.mono HKx.out.size))
      have F1 := fun p : BelowBy w6 => by_cell (cell_keep b6 cx) p
      have F2 := fun p : BelowBy w6 => by_cell (cell_keep b6 qx) p
      have hNB2 : (NB.toList == NB.toList) = true := by simp
      have hkk : ((k : Int) == k) = true := by simp
      have HNq := fun p : BelowBy w6 => hid ((HNm.out p.to (HK6.out.trans (p.le.mono HK6.out.size))).mono (R' := fun e w' => e = .returned (.string NB) ∧ Below p.to.heap.size p.to w') fun _ _ ⟨h1, h2⟩ => ⟨h1, h2 ▸ Below.refl _ _⟩)
      clear cx qx HNm HP5 b6
      go_wp2_with fail
      refine wp_region_below (by kernel_rfl) (by kernel_rfl) ?_
      repeat (go_big_quiet_step (first | with_reducible exact calls_by (HNq _).out))
      refine wpQuiet_nil ?_
      rintro wq ⟨⟨wqx, kq⟩, rfl⟩
      go_wp2
      go_ret
      exact ⟨rfl, HK6.out.trans (kq.mono HK6.out.size)⟩
  · have HNm := hid (fun W (q : Below w.heap.size w W) => (scr_name op W (hE.nam.below q) hi (x := ⟨#[]⟩) (by unfold opName; rw [if_neg hin])))
    have hcase : op < 0 ∨ (¬ op < 0 ∧ 20 ≤ op) := by omega
    clear hin hE
    rcases hcase with h0 | ⟨h0, h1⟩
    all_goals
      go_enter Tryz.func5, Tryz.ntmps5
      go_wp2_with fail
      refine HAw.out.mono ?_
      rintro e w1 ⟨rfl, k1⟩
      clear HAw
      go_wp2_with fail
      refine (HNs.out _).mono ?_
      rintro e w2 ⟨rfl, -, b2⟩
      have K2 := hid (k1.trans (b2.mono k1.size))
      have HN2 := hid (HNm.out w2 K2.out)
      clear HNs HNm b2
      go_wp2_with fail
      refine HN2.out.mono ?_
      rintro e w3 ⟨rfl, rfl⟩
      clear HN2
      go_wp2
      go_ret
      exact ⟨rfl, K2.out⟩
end

/-! ### Laid2 -/
section
open Go.ChangeShapes Go.WideShapes Go.ChangeAt Go.RowKit Go.Deep

theorem gErr : Tryz.prog.globalNamed "strconv.ErrRange" = some 5 := by kernel_rfl
theorem gErrType : (Tryz.prog.globals[5]?).map (·.type) = some 57 := by kernel_rfl

theorem starErr : "*" ++ "errors.errorString" = "*errors.errorString" := by decide
theorem nameErr (u : TypeId) (h : Tryz.prog.typeName? 3 u = some "*errors.errorString") : u = 206 :=
  typeName_ptr_named (nm := "errors.errorString") (by rw [starErr]; kernel_rfl) (by kernel_rfl) (by decide) u (by rw [starErr]; exact h)

theorem env_of_laid {l : List (String × DataW Unit)} {W : World} {a b c d e : String × DataW Unit} (hl : l = [a, b, c, d, e]) (hd : d = ("strconv.ErrRange", Rows.laid_strconv_ErrRange)) (hm : ("internal/strconv.uint64pow10", Rows.laid_internal_strconv_uint64pow10) ∈ l) (hp : (l.all fun x => x.2.handleName?.isNone) = true) (h : laidMetH Tryz.prog l W) : Env W := by
  refine ⟨tab_of_laid hm hp h, ?_⟩
  rw [MakeChecks.laidMetH_plain _ _ _ hp] at h
  subst hl hd
  obtain ⟨a0, s0, hv, _⟩ := laid_sentinel h.tail.tail.tail gErr gErrType Tryz.underlying57 nameErr Tryz.underlying206 Tryz.underlying208 rfl rfl Tryz.underlying9 (by kernel_rfl) (by kernel_rfl)
  exact ⟨_, _, by simpa using World.var?_cell gErr hv 0⟩

set_option maxRecDepth 100000 in
/-- A value that came in. -/
theorem open_val {H : Type} {enc : TypeId × Value → H} {w W : World} {base b0 : Nat} {sp : Nat → Bool} {held : Bool} {r : Reach} {n : Nat} {v : Value} {x : DataW H × List MemPlace} (hok : Value.okWide Tryz.prog W r b0 67 v)
    (h : DataW.trod enc Tryz.prog w base sp held n 67 v.cells.toList = some x) : ∃ u : V, v = .agg #[.int .i64 u.k, .int .i64 u.n, .string u.s] ∧ u.wf := by
  obtain ⟨cs, rfl, _⟩ := okWide_struct Tryz.underlying67 hok
  obtain ⟨u, hu, hc⟩ := trod_V h
  obtain ⟨cs⟩ := cs
  have : cs = [.int .i64 u.k, .int .i64 u.n, .string u.s] := hc
  subst this
  exact ⟨u, rfl, hu⟩

set_option maxRecDepth 100000 in
theorem open_i64 {H : Type} {enc : TypeId × Value → H} {w W : World} {base b0 : Nat} {sp : Nat → Bool} {held : Bool} {r : Reach} {n : Nat} {v : Value} {x : DataW H × List MemPlace} {t : TypeId} (ht : Tryz.prog.underlying t = some (.int .i64)) (hok : Value.okWide Tryz.prog W r b0 t v)
    (h : DataW.trod enc Tryz.prog w base sp held n t v.cells.toList = some x) : ∃ k : Int, v = .int .i64 k ∧ I64 k := by
  obtain ⟨k, rfl⟩ := okWide_int ht hok
  obtain ⟨k', e, _, hw⟩ := DataW.trod_int ht h
  simp [Value.cells] at e
  subst e
  exact ⟨k, rfl, i64_of hw⟩
set_option maxRecDepth 100000 in
theorem open_str {H : Type} {enc : TypeId × Value → H} {w W : World} {base b0 : Nat} {sp : Nat → Bool} {held : Bool} {r : Reach} {n : Nat} {v : Value} {x : DataW H × List MemPlace} {t : TypeId} (ht : Tryz.prog.underlying t = some .string) (hok : Value.okWide Tryz.prog W r b0 t v)
    (h : DataW.trod enc Tryz.prog w base sp held n t v.cells.toList = some x) : ∃ s : ByteArray, v = .string s ∧ s.size ≤ 9223372036854775807 := by
  obtain ⟨s, rfl⟩ := okWide_string ht hok
  obtain ⟨s', e, _, hw⟩ := DataW.trod_string ht h
  simp [Value.cells] at e
  subst e
  exact ⟨s, rfl, hw⟩

/-- A start for the witness: the tables and the two sentinels as their initialisers lay them. -/
noncomputable def low : Nat := (World.holding Tryz.prog default ⟨#[], #[], []⟩).heap.size
def layErr (b : Nat) : Obj → Obj
  | .cells _ t frozen => .cells #[.iface 206 (.pointer (some ⟨b, 0, none⟩))] t frozen
  | o => o
noncomputable def laidWorldE (os : Os) : World :=
  let w0 := World.holding Tryz.prog os ⟨#[.cells #[.string ⟨#[118, 97, 108, 117, 101, 32, 111, 117, 116, 32, 111, 102, 32, 114, 97, 110, 103, 101]⟩] 208, .cells #[.string ⟨#[105, 110, 118, 97, 108, 105, 100, 32, 115, 121, 110, 116, 97, 120]⟩] 208], #[], []⟩
  { w0 with heap := ((((w0.heap.modify 2 (layIn Rows.laid_internal_strconv_uint64pow10)).modify 6 (layIn Rows.laid_math_bits_deBruijn32tab)).modify 7 (layIn Rows.laid_math_bits_deBruijn64tab)).modify 5 (layErr low)).modify 4 (layErr (low + 1)) }
end
end Go.Proofs.YtjhnopnppimnhaaGreatDoor
