/-
  PARTS of a claim, merged by segs.py: Sk4.
-/
import Derived.Test.YtjhnopnppimnhaaGreatDoorZ20
namespace Go.Proofs.YtjhnopnppimnhaaGreatDoor

/-! ### Sk4 -/
section
open Go.RowKit

theorem infoShp : (Tryz.prog.info? 76).map (·.size) = some 5 := by kernel_rfl
abbrev shpZ : Obj := .cells #[.bool false, .bool false, .slice none 0 0, .bool false, .bool false] 76
/-- A row of ranges. -/
def SpnAt (w : World) (A : Option Addr) (l : List (Int × Int)) : Prop :=
  0 < l.length → ∃ b o, A = some ⟨b, o, none⟩ ∧ ∀ i (h : i < l.length), w.cell? ⟨b, o + i * 2, none⟩ = some (.int .i64 l[i].1) ∧ w.cell? ⟨b, o + i * 2 + 1, none⟩ = some (.int .i64 l[i].2)
theorem SpnAt.nil {w : World} {A : Option Addr} : SpnAt w A [] := fun h => absurd h (by simp)
theorem SpnAt.below {w w' : World} {A : Option Addr} {r : List (Int × Int)} (h : SpnAt w A r) (hb : Below w.heap.size w w') : SpnAt w' A r := fun hp => by
  obtain ⟨b, o, e, hc⟩ := h hp
  exact ⟨b, o, e, fun i hi => ⟨cell_keep hb (hc i hi).1, cell_keep hb (hc i hi).2⟩⟩
theorem spn_at {w : World} {g : Nat} {l : List (Int × Int)} (h : w.heap[g]? = some (.cells (l.flatMap fun r => [Value.int .i64 r.1, Value.int .i64 r.2]).toArray 82)) : SpnAt w (some ⟨g, 0, none⟩) l := fun _ => by
  refine ⟨g, 0, rfl, fun i hi => ?_⟩
  have h0 := ren_get (k := 2) (f := fun r : Int × Int => [Value.int .i64 r.1, Value.int .i64 r.2]) (fun _ => rfl) l i 0 hi (by omega)
  have h1 := ren_get (k := 2) (f := fun r : Int × Int => [Value.int .i64 r.1, Value.int .i64 r.2]) (fun _ => rfl) l i 1 hi (by omega)
  constructor
  · rw [box_cell h, Nat.zero_add, List.getElem?_toArray]; exact h0
  · rw [box_cell h, Nat.zero_add, List.getElem?_toArray]; exact h1
theorem SpnAt.grown {w w' : World} {g t n : Nat} {l : List (Int × Int)} (h : SpnAt w (some ⟨g, 0, none⟩) l) (hg : w.grownBy w' (some t)) (_hn : w.heap.size = n + 5) (ht : t ≠ g) : SpnAt w' (some ⟨g, 0, none⟩) l := fun hp => by
  obtain ⟨b, o, e, hc⟩ := h hp
  injection e with e
  injection e with e1 e2
  subst e1 e2
  refine ⟨g, 0, rfl, fun i hi => ?_⟩
  have hb : w'.heap[g]? = w.heap[g]? := hg.block g (cell_lt (hc i hi).1) (fun e => ht (by injection e with e; exact e.symm))
  exact ⟨(World.cell?_of_block (a := ⟨g, _, none⟩) hb).trans (hc i hi).1, (World.cell?_of_block (a := ⟨g, _, none⟩) hb).trans (hc i hi).2⟩
/-- What shapeOf answers. -/
def RetShp (w : World) (f : Shp) (e : Ending) (w' : World) : Prop :=
  ∃ A c, e = .returned (.agg #[.bool f.name, .bool f.kinds, .slice A f.nums.length c, .bool f.row, .bool f.query]) ∧ SpnAt w' A f.nums ∧ f.nums.length ≤ c ∧ Below w.heap.size w w'
theorem shp_first4 (w : World) (a b c : Obj) : ((((w.alloc shpZ).alloc a).alloc b).alloc c).heap[w.heap.size]? = some shpZ := by
  rw [Below.heap_alloc _ _ _ (by simp; omega), Below.heap_alloc _ _ _ (by simp; omega), Below.heap_alloc _ _ _ (by simp)]; exact heap_alloc_new w _
theorem shp_first5 (w : World) (a b c d : Obj) : (((((w.alloc shpZ).alloc a).alloc b).alloc c).alloc d).heap[w.heap.size]? = some shpZ := by
  rw [Below.heap_alloc _ _ _ (by simp; omega)]; exact shp_first4 w a b c
theorem shp_below4 (w : World) (z a b c : Obj) : Below w.heap.size w ((((w.alloc z).alloc a).alloc b).alloc c) := (below_three w z a b).alloc (by simp; omega) _
theorem shp_below5 (w : World) (z a b c d : Obj) : Below w.heap.size w (((((w.alloc z).alloc a).alloc b).alloc c).alloc d) := (shp_below4 w z a b c).alloc (by simp; omega) _

set_option maxRecDepth 100000 in
set_option maxHeartbeats 1000000 in
theorem shp_0 (w : World) : Calls Tryz.prog 31 #[.int .i64 0] w (RetShp w (shpOf 0)) := by
  obtain ⟨W, hW⟩ : ∃ W, ((((w.alloc shpZ).alloc (.cells #[.int .i64 (-9223372036854775808), .int .i64 9223372036854775807] 82)).alloc (.cells #[.int .i64 0, .int .i64 9223372036854775807] 82)).alloc (.cells #[.int .i64 (-1), .int .i64 9223372036854775807] 82)) = W := ⟨_, rfl⟩
  have hs : W.heap.size = w.heap.size + 4 := by rw [← hW]; simp only [World.size_alloc]
  have hz : W.heap[w.heap.size]? = some shpZ := by rw [← hW]; exact shp_first4 w _ _ _
  have kb : Below w.heap.size w W := by rw [← hW]; exact shp_below4 w _ _ _ _
  have HW := hid hW
  clear hW
  go_enter Tryz.func31, Tryz.ntmps31
  go_wp2_with (rw [HW.out]; refine wpList_stored2 rfl rfl rfl rfl hz infoShp rfl rfl ?_; intro w9 hz9 hg9)
  refine bodyPost_ret (by simp [results, Tryz.results31, go_sem, cell_res hz9]; rfl) rfl ?_
  exact ⟨none, 0, rfl, SpnAt.nil, by decide, kb.trans (grown_below' hg9 (Nat.le_refl _) (by omega))⟩

set_option maxRecDepth 100000 in
set_option maxHeartbeats 1000000 in
theorem shp_1 (w : World) : Calls Tryz.prog 31 #[.int .i64 1] w (RetShp w (shpOf 1)) := by
  obtain ⟨W, hW⟩ : ∃ W, ((((w.alloc shpZ).alloc (.cells #[.int .i64 (-9223372036854775808), .int .i64 9223372036854775807] 82)).alloc (.cells #[.int .i64 0, .int .i64 9223372036854775807] 82)).alloc (.cells #[.int .i64 (-1), .int .i64 9223372036854775807] 82)) = W := ⟨_, rfl⟩
  have hs : W.heap.size = w.heap.size + 4 := by rw [← hW]; simp only [World.size_alloc]
  have hz : W.heap[w.heap.size]? = some shpZ := by rw [← hW]; exact shp_first4 w _ _ _
  have kb : Below w.heap.size w W := by rw [← hW]; exact shp_below4 w _ _ _ _
  have HW := hid hW
  clear hW
  go_enter Tryz.func31, Tryz.ntmps31
  go_wp2_with (rw [HW.out]; refine wpList_stored2 rfl rfl rfl rfl hz infoShp rfl rfl ?_; intro w9 hz9 hg9)
  refine bodyPost_ret (by simp [results, Tryz.results31, go_sem, cell_res hz9]; rfl) rfl ?_
  exact ⟨none, 0, rfl, SpnAt.nil, by decide, kb.trans (grown_below' hg9 (Nat.le_refl _) (by omega))⟩

set_option maxRecDepth 100000 in
set_option maxHeartbeats 1000000 in
theorem shp_2 (w : World) : Calls Tryz.prog 31 #[.int .i64 2] w (RetShp w (shpOf 2)) := by
  obtain ⟨W, hW⟩ : ∃ W, ((((w.alloc shpZ).alloc (.cells #[.int .i64 (-9223372036854775808), .int .i64 9223372036854775807] 82)).alloc (.cells #[.int .i64 0, .int .i64 9223372036854775807] 82)).alloc (.cells #[.int .i64 (-1), .int .i64 9223372036854775807] 82)) = W := ⟨_, rfl⟩
  have hs : W.heap.size = w.heap.size + 4 := by rw [← hW]; simp only [World.size_alloc]
  have hz : W.heap[w.heap.size]? = some shpZ := by rw [← hW]; exact shp_first4 w _ _ _
  have kb : Below w.heap.size w W := by rw [← hW]; exact shp_below4 w _ _ _ _
  have HW := hid hW
  clear hW
  go_enter Tryz.func31, Tryz.ntmps31
  go_wp2_with (rw [HW.out]; refine wpList_stored2 rfl rfl rfl rfl hz infoShp rfl rfl ?_; intro w9 hz9 hg9)
  refine bodyPost_ret (by simp [results, Tryz.results31, go_sem, cell_res hz9]; rfl) rfl ?_
  exact ⟨none, 0, rfl, SpnAt.nil, by decide, kb.trans (grown_below' hg9 (Nat.le_refl _) (by omega))⟩

set_option maxRecDepth 100000 in
set_option maxHeartbeats 1000000 in
theorem shp_3 (w : World) : Calls Tryz.prog 31 #[.int .i64 3] w (RetShp w (shpOf 3)) := by
  obtain ⟨W, hW⟩ : ∃ W, ((((w.alloc shpZ).alloc (.cells #[.int .i64 (-9223372036854775808), .int .i64 9223372036854775807] 82)).alloc (.cells #[.int .i64 0, .int .i64 9223372036854775807] 82)).alloc (.cells #[.int .i64 (-1), .int .i64 9223372036854775807] 82)) = W := ⟨_, rfl⟩
  have hs : W.heap.size = w.heap.size + 4 := by rw [← hW]; simp only [World.size_alloc]
  have hz : W.heap[w.heap.size]? = some shpZ := by rw [← hW]; exact shp_first4 w _ _ _
  have kb : Below w.heap.size w W := by rw [← hW]; exact shp_below4 w _ _ _ _
  have HW := hid hW
  clear hW
  go_enter Tryz.func31, Tryz.ntmps31
  go_wp2_with (rw [HW.out]; refine wpList_stored2 rfl rfl rfl rfl hz infoShp rfl rfl ?_; intro w9 hz9 hg9)
  refine bodyPost_ret (by simp [results, Tryz.results31, go_sem, cell_res hz9]; rfl) rfl ?_
  exact ⟨none, 0, rfl, SpnAt.nil, by decide, kb.trans (grown_below' hg9 (Nat.le_refl _) (by omega))⟩

set_option maxRecDepth 100000 in
set_option maxHeartbeats 1000000 in
theorem shp_4 (w : World) : Calls Tryz.prog 31 #[.int .i64 4] w (RetShp w (shpOf 4)) := by
  obtain ⟨W, hW⟩ : ∃ W, ((((w.alloc shpZ).alloc (.cells #[.int .i64 (-9223372036854775808), .int .i64 9223372036854775807] 82)).alloc (.cells #[.int .i64 0, .int .i64 9223372036854775807] 82)).alloc (.cells #[.int .i64 (-1), .int .i64 9223372036854775807] 82)) = W := ⟨_, rfl⟩
  have hs : W.heap.size = w.heap.size + 4 := by rw [← hW]; simp only [World.size_alloc]
  have hz : W.heap[w.heap.size]? = some shpZ := by rw [← hW]; exact shp_first4 w _ _ _
  have kb : Below w.heap.size w W := by rw [← hW]; exact shp_below4 w _ _ _ _
  have HW := hid hW
  clear hW
  go_enter Tryz.func31, Tryz.ntmps31
  go_wp2_with (rw [HW.out]; refine wpList_stored2 rfl rfl rfl rfl hz infoShp rfl rfl ?_; intro w9 hz9 hg9)
  refine bodyPost_ret (by simp [results, Tryz.results31, go_sem, cell_res hz9]; rfl) rfl ?_
  exact ⟨none, 0, rfl, SpnAt.nil, by decide, kb.trans (grown_below' hg9 (Nat.le_refl _) (by omega))⟩

set_option maxRecDepth 100000 in
set_option maxHeartbeats 1000000 in
theorem shp_5 (w : World) : Calls Tryz.prog 31 #[.int .i64 5] w (RetShp w (shpOf 5)) := by
  obtain ⟨W, hW⟩ : ∃ W, ((((w.alloc shpZ).alloc (.cells #[.int .i64 (-9223372036854775808), .int .i64 9223372036854775807] 82)).alloc (.cells #[.int .i64 0, .int .i64 9223372036854775807] 82)).alloc (.cells #[.int .i64 (-1), .int .i64 9223372036854775807] 82)) = W := ⟨_, rfl⟩
  have hs : W.heap.size = w.heap.size + 4 := by rw [← hW]; simp only [World.size_alloc]
  have hz : W.heap[w.heap.size]? = some shpZ := by rw [← hW]; exact shp_first4 w _ _ _
  have kb : Below w.heap.size w W := by rw [← hW]; exact shp_below4 w _ _ _ _
  have HW := hid hW
  clear hW
  go_enter Tryz.func31, Tryz.ntmps31
  go_wp2_with (rw [HW.out]; refine wpList_stored2 rfl rfl rfl rfl hz infoShp rfl rfl ?_; intro w9 hz9 hg9)
  refine bodyPost_ret (by simp [results, Tryz.results31, go_sem, cell_res hz9]; rfl) rfl ?_
  exact ⟨none, 0, rfl, SpnAt.nil, by decide, kb.trans (grown_below' hg9 (Nat.le_refl _) (by omega))⟩

set_option maxRecDepth 100000 in
set_option maxHeartbeats 1000000 in
theorem shp_6 (w : World) : Calls Tryz.prog 31 #[.int .i64 6] w (RetShp w (shpOf 6)) := by
  obtain ⟨W, hW⟩ : ∃ W, (((((w.alloc shpZ).alloc (.cells #[.int .i64 (-9223372036854775808), .int .i64 9223372036854775807] 82)).alloc (.cells #[.int .i64 0, .int .i64 9223372036854775807] 82)).alloc (.cells #[.int .i64 (-1), .int .i64 9223372036854775807] 82)).alloc (.cells #[.int .i64 0, .int .i64 9223372036854775807] 82)) = W := ⟨_, rfl⟩
  have hs : W.heap.size = w.heap.size + 5 := by rw [← hW]; simp only [World.size_alloc]
  have hz : W.heap[w.heap.size]? = some shpZ := by rw [← hW]; exact shp_first5 w _ _ _ _
  have hr : SpnAt W (some ⟨w.heap.size + 1 + 1 + 1 + 1, 0, none⟩) (shpOf 6).nums := by
    refine spn_at ?_
    rw [← hW]
    have := heap_alloc_new ((((w.alloc shpZ).alloc (.cells #[.int .i64 (-9223372036854775808), .int .i64 9223372036854775807] 82)).alloc (.cells #[.int .i64 0, .int .i64 9223372036854775807] 82)).alloc (.cells #[.int .i64 (-1), .int .i64 9223372036854775807] 82)) (.cells #[.int .i64 0, .int .i64 9223372036854775807] 82)
    simp only [World.size_alloc] at this
    exact this
  have kb : Below w.heap.size w W := by rw [← hW]; exact shp_below5 w _ _ _ _ _
  have HW := hid hW
  clear hW
  go_enter Tryz.func31, Tryz.ntmps31
  go_wp2_with (rw [HW.out]; refine wpList_stored2 rfl rfl rfl rfl hz infoShp rfl rfl ?_; intro w9 hz9 hg9)
  refine bodyPost_ret (by simp [results, Tryz.results31, go_sem, cell_res hz9]; rfl) rfl ?_
  exact ⟨_, _, rfl, hr.grown hg9 (by omega) (by omega), by decide, kb.trans (grown_below' hg9 (Nat.le_refl _) (by omega))⟩

set_option maxRecDepth 100000 in
set_option maxHeartbeats 1000000 in
theorem shp_7 (w : World) : Calls Tryz.prog 31 #[.int .i64 7] w (RetShp w (shpOf 7)) := by
  obtain ⟨W, hW⟩ : ∃ W, ((((w.alloc shpZ).alloc (.cells #[.int .i64 (-9223372036854775808), .int .i64 9223372036854775807] 82)).alloc (.cells #[.int .i64 0, .int .i64 9223372036854775807] 82)).alloc (.cells #[.int .i64 (-1), .int .i64 9223372036854775807] 82)) = W := ⟨_, rfl⟩
  have hs : W.heap.size = w.heap.size + 4 := by rw [← hW]; simp only [World.size_alloc]
  have hz : W.heap[w.heap.size]? = some shpZ := by rw [← hW]; exact shp_first4 w _ _ _
  have kb : Below w.heap.size w W := by rw [← hW]; exact shp_below4 w _ _ _ _
  have HW := hid hW
  clear hW
  go_enter Tryz.func31, Tryz.ntmps31
  go_wp2_with (rw [HW.out]; refine wpList_stored2 rfl rfl rfl rfl hz infoShp rfl rfl ?_; intro w9 hz9 hg9)
  refine bodyPost_ret (by simp [results, Tryz.results31, go_sem, cell_res hz9]; rfl) rfl ?_
  exact ⟨none, 0, rfl, SpnAt.nil, by decide, kb.trans (grown_below' hg9 (Nat.le_refl _) (by omega))⟩

set_option maxRecDepth 100000 in
set_option maxHeartbeats 1000000 in
theorem shp_8 (w : World) : Calls Tryz.prog 31 #[.int .i64 8] w (RetShp w (shpOf 8)) := by
  obtain ⟨W, hW⟩ : ∃ W, (((((w.alloc shpZ).alloc (.cells #[.int .i64 (-9223372036854775808), .int .i64 9223372036854775807] 82)).alloc (.cells #[.int .i64 0, .int .i64 9223372036854775807] 82)).alloc (.cells #[.int .i64 (-1), .int .i64 9223372036854775807] 82)).alloc (.cells #[.int .i64 (-1), .int .i64 9223372036854775807] 82)) = W := ⟨_, rfl⟩
  have hs : W.heap.size = w.heap.size + 5 := by rw [← hW]; simp only [World.size_alloc]
  have hz : W.heap[w.heap.size]? = some shpZ := by rw [← hW]; exact shp_first5 w _ _ _ _
  have hr : SpnAt W (some ⟨w.heap.size + 1 + 1 + 1 + 1, 0, none⟩) (shpOf 8).nums := by
    refine spn_at ?_
    rw [← hW]
    have := heap_alloc_new ((((w.alloc shpZ).alloc (.cells #[.int .i64 (-9223372036854775808), .int .i64 9223372036854775807] 82)).alloc (.cells #[.int .i64 0, .int .i64 9223372036854775807] 82)).alloc (.cells #[.int .i64 (-1), .int .i64 9223372036854775807] 82)) (.cells #[.int .i64 (-1), .int .i64 9223372036854775807] 82)
    simp only [World.size_alloc] at this
    exact this
  have kb : Below w.heap.size w W := by rw [← hW]; exact shp_below5 w _ _ _ _ _
  have HW := hid hW
  clear hW
  go_enter Tryz.func31, Tryz.ntmps31
  go_wp2_with (rw [HW.out]; refine wpList_stored2 rfl rfl rfl rfl hz infoShp rfl rfl ?_; intro w9 hz9 hg9)
  refine bodyPost_ret (by simp [results, Tryz.results31, go_sem, cell_res hz9]; rfl) rfl ?_
  exact ⟨_, _, rfl, hr.grown hg9 (by omega) (by omega), by decide, kb.trans (grown_below' hg9 (Nat.le_refl _) (by omega))⟩

set_option maxRecDepth 100000 in
set_option maxHeartbeats 1000000 in
theorem shp_9 (w : World) : Calls Tryz.prog 31 #[.int .i64 9] w (RetShp w (shpOf 9)) := by
  obtain ⟨W, hW⟩ : ∃ W, (((((w.alloc shpZ).alloc (.cells #[.int .i64 (-9223372036854775808), .int .i64 9223372036854775807] 82)).alloc (.cells #[.int .i64 0, .int .i64 9223372036854775807] 82)).alloc (.cells #[.int .i64 (-1), .int .i64 9223372036854775807] 82)).alloc (.cells #[.int .i64 0, .int .i64 9223372036854775807, .int .i64 0, .int .i64 1000] 82)) = W := ⟨_, rfl⟩
  have hs : W.heap.size = w.heap.size + 5 := by rw [← hW]; simp only [World.size_alloc]
  have hz : W.heap[w.heap.size]? = some shpZ := by rw [← hW]; exact shp_first5 w _ _ _ _
  have hr : SpnAt W (some ⟨w.heap.size + 1 + 1 + 1 + 1, 0, none⟩) (shpOf 9).nums := by
    refine spn_at ?_
    rw [← hW]
    have := heap_alloc_new ((((w.alloc shpZ).alloc (.cells #[.int .i64 (-9223372036854775808), .int .i64 9223372036854775807] 82)).alloc (.cells #[.int .i64 0, .int .i64 9223372036854775807] 82)).alloc (.cells #[.int .i64 (-1), .int .i64 9223372036854775807] 82)) (.cells #[.int .i64 0, .int .i64 9223372036854775807, .int .i64 0, .int .i64 1000] 82)
    simp only [World.size_alloc] at this
    exact this
  have kb : Below w.heap.size w W := by rw [← hW]; exact shp_below5 w _ _ _ _ _
  have HW := hid hW
  clear hW
  go_enter Tryz.func31, Tryz.ntmps31
  go_wp2_with (rw [HW.out]; refine wpList_stored2 rfl rfl rfl rfl hz infoShp rfl rfl ?_; intro w9 hz9 hg9)
  refine bodyPost_ret (by simp [results, Tryz.results31, go_sem, cell_res hz9]; rfl) rfl ?_
  exact ⟨_, _, rfl, hr.grown hg9 (by omega) (by omega), by decide, kb.trans (grown_below' hg9 (Nat.le_refl _) (by omega))⟩

set_option maxRecDepth 100000 in
set_option maxHeartbeats 1000000 in
theorem shp_10 (w : World) : Calls Tryz.prog 31 #[.int .i64 10] w (RetShp w (shpOf 10)) := by
  obtain ⟨W, hW⟩ : ∃ W, (((((w.alloc shpZ).alloc (.cells #[.int .i64 (-9223372036854775808), .int .i64 9223372036854775807] 82)).alloc (.cells #[.int .i64 0, .int .i64 9223372036854775807] 82)).alloc (.cells #[.int .i64 (-1), .int .i64 9223372036854775807] 82)).alloc (.cells #[.int .i64 0, .int .i64 9223372036854775807, .int .i64 0, .int .i64 9223372036854775807] 82)) = W := ⟨_, rfl⟩
  have hs : W.heap.size = w.heap.size + 5 := by rw [← hW]; simp only [World.size_alloc]
  have hz : W.heap[w.heap.size]? = some shpZ := by rw [← hW]; exact shp_first5 w _ _ _ _
  have hr : SpnAt W (some ⟨w.heap.size + 1 + 1 + 1 + 1, 0, none⟩) (shpOf 10).nums := by
    refine spn_at ?_
    rw [← hW]
    have := heap_alloc_new ((((w.alloc shpZ).alloc (.cells #[.int .i64 (-9223372036854775808), .int .i64 9223372036854775807] 82)).alloc (.cells #[.int .i64 0, .int .i64 9223372036854775807] 82)).alloc (.cells #[.int .i64 (-1), .int .i64 9223372036854775807] 82)) (.cells #[.int .i64 0, .int .i64 9223372036854775807, .int .i64 0, .int .i64 9223372036854775807] 82)
    simp only [World.size_alloc] at this
    exact this
  have kb : Below w.heap.size w W := by rw [← hW]; exact shp_below5 w _ _ _ _ _
  have HW := hid hW
  clear hW
  go_enter Tryz.func31, Tryz.ntmps31
  go_wp2_with (rw [HW.out]; refine wpList_stored2 rfl rfl rfl rfl hz infoShp rfl rfl ?_; intro w9 hz9 hg9)
  refine bodyPost_ret (by simp [results, Tryz.results31, go_sem, cell_res hz9]; rfl) rfl ?_
  exact ⟨_, _, rfl, hr.grown hg9 (by omega) (by omega), by decide, kb.trans (grown_below' hg9 (Nat.le_refl _) (by omega))⟩

set_option maxRecDepth 100000 in
set_option maxHeartbeats 1000000 in
theorem shp_11 (w : World) : Calls Tryz.prog 31 #[.int .i64 11] w (RetShp w (shpOf 11)) := by
  obtain ⟨W, hW⟩ : ∃ W, (((((w.alloc shpZ).alloc (.cells #[.int .i64 (-9223372036854775808), .int .i64 9223372036854775807] 82)).alloc (.cells #[.int .i64 0, .int .i64 9223372036854775807] 82)).alloc (.cells #[.int .i64 (-1), .int .i64 9223372036854775807] 82)).alloc (.cells #[.int .i64 0, .int .i64 9223372036854775807] 82)) = W := ⟨_, rfl⟩
  have hs : W.heap.size = w.heap.size + 5 := by rw [← hW]; simp only [World.size_alloc]
  have hz : W.heap[w.heap.size]? = some shpZ := by rw [← hW]; exact shp_first5 w _ _ _ _
  have hr : SpnAt W (some ⟨w.heap.size + 1 + 1 + 1 + 1, 0, none⟩) (shpOf 11).nums := by
    refine spn_at ?_
    rw [← hW]
    have := heap_alloc_new ((((w.alloc shpZ).alloc (.cells #[.int .i64 (-9223372036854775808), .int .i64 9223372036854775807] 82)).alloc (.cells #[.int .i64 0, .int .i64 9223372036854775807] 82)).alloc (.cells #[.int .i64 (-1), .int .i64 9223372036854775807] 82)) (.cells #[.int .i64 0, .int .i64 9223372036854775807] 82)
    simp only [World.size_alloc] at this
    exact this
  have kb : Below w.heap.size w W := by rw [← hW]; exact shp_below5 w _ _ _ _ _
  have HW := hid hW
  clear hW
  go_enter Tryz.func31, Tryz.ntmps31
  go_wp2_with (rw [HW.out]; refine wpList_stored2 rfl rfl rfl rfl hz infoShp rfl rfl ?_; intro w9 hz9 hg9)
  refine bodyPost_ret (by simp [results, Tryz.results31, go_sem, cell_res hz9]; rfl) rfl ?_
  exact ⟨_, _, rfl, hr.grown hg9 (by omega) (by omega), by decide, kb.trans (grown_below' hg9 (Nat.le_refl _) (by omega))⟩

set_option maxRecDepth 100000 in
set_option maxHeartbeats 1000000 in
theorem shp_12 (w : World) : Calls Tryz.prog 31 #[.int .i64 12] w (RetShp w (shpOf 12)) := by
  obtain ⟨W, hW⟩ : ∃ W, (((((w.alloc shpZ).alloc (.cells #[.int .i64 (-9223372036854775808), .int .i64 9223372036854775807] 82)).alloc (.cells #[.int .i64 0, .int .i64 9223372036854775807] 82)).alloc (.cells #[.int .i64 (-1), .int .i64 9223372036854775807] 82)).alloc (.cells #[.int .i64 0, .int .i64 9223372036854775807] 82)) = W := ⟨_, rfl⟩
  have hs : W.heap.size = w.heap.size + 5 := by rw [← hW]; simp only [World.size_alloc]
  have hz : W.heap[w.heap.size]? = some shpZ := by rw [← hW]; exact shp_first5 w _ _ _ _
  have hr : SpnAt W (some ⟨w.heap.size + 1 + 1 + 1 + 1, 0, none⟩) (shpOf 12).nums := by
    refine spn_at ?_
    rw [← hW]
    have := heap_alloc_new ((((w.alloc shpZ).alloc (.cells #[.int .i64 (-9223372036854775808), .int .i64 9223372036854775807] 82)).alloc (.cells #[.int .i64 0, .int .i64 9223372036854775807] 82)).alloc (.cells #[.int .i64 (-1), .int .i64 9223372036854775807] 82)) (.cells #[.int .i64 0, .int .i64 9223372036854775807] 82)
    simp only [World.size_alloc] at this
    exact this
  have kb : Below w.heap.size w W := by rw [← hW]; exact shp_below5 w _ _ _ _ _
  have HW := hid hW
  clear hW
  go_enter Tryz.func31, Tryz.ntmps31
  go_wp2_with (rw [HW.out]; refine wpList_stored2 rfl rfl rfl rfl hz infoShp rfl rfl ?_; intro w9 hz9 hg9)
  refine bodyPost_ret (by simp [results, Tryz.results31, go_sem, cell_res hz9]; rfl) rfl ?_
  exact ⟨_, _, rfl, hr.grown hg9 (by omega) (by omega), by decide, kb.trans (grown_below' hg9 (Nat.le_refl _) (by omega))⟩

set_option maxRecDepth 100000 in
set_option maxHeartbeats 1000000 in
theorem shp_13 (w : World) : Calls Tryz.prog 31 #[.int .i64 13] w (RetShp w (shpOf 13)) := by
  obtain ⟨W, hW⟩ : ∃ W, (((((w.alloc shpZ).alloc (.cells #[.int .i64 (-9223372036854775808), .int .i64 9223372036854775807] 82)).alloc (.cells #[.int .i64 0, .int .i64 9223372036854775807] 82)).alloc (.cells #[.int .i64 (-1), .int .i64 9223372036854775807] 82)).alloc (.cells #[.int .i64 (-1), .int .i64 9223372036854775807] 82)) = W := ⟨_, rfl⟩
  have hs : W.heap.size = w.heap.size + 5 := by rw [← hW]; simp only [World.size_alloc]
  have hz : W.heap[w.heap.size]? = some shpZ := by rw [← hW]; exact shp_first5 w _ _ _ _
  have hr : SpnAt W (some ⟨w.heap.size + 1 + 1 + 1 + 1, 0, none⟩) (shpOf 13).nums := by
    refine spn_at ?_
    rw [← hW]
    have := heap_alloc_new ((((w.alloc shpZ).alloc (.cells #[.int .i64 (-9223372036854775808), .int .i64 9223372036854775807] 82)).alloc (.cells #[.int .i64 0, .int .i64 9223372036854775807] 82)).alloc (.cells #[.int .i64 (-1), .int .i64 9223372036854775807] 82)) (.cells #[.int .i64 (-1), .int .i64 9223372036854775807] 82)
    simp only [World.size_alloc] at this
    exact this
  have kb : Below w.heap.size w W := by rw [← hW]; exact shp_below5 w _ _ _ _ _
  have HW := hid hW
  clear hW
  go_enter Tryz.func31, Tryz.ntmps31
  go_wp2_with (rw [HW.out]; refine wpList_stored2 rfl rfl rfl rfl hz infoShp rfl rfl ?_; intro w9 hz9 hg9)
  refine bodyPost_ret (by simp [results, Tryz.results31, go_sem, cell_res hz9]; rfl) rfl ?_
  exact ⟨_, _, rfl, hr.grown hg9 (by omega) (by omega), by decide, kb.trans (grown_below' hg9 (Nat.le_refl _) (by omega))⟩

set_option maxRecDepth 100000 in
set_option maxHeartbeats 1000000 in
theorem shp_14 (w : World) : Calls Tryz.prog 31 #[.int .i64 14] w (RetShp w (shpOf 14)) := by
  obtain ⟨W, hW⟩ : ∃ W, (((((w.alloc shpZ).alloc (.cells #[.int .i64 (-9223372036854775808), .int .i64 9223372036854775807] 82)).alloc (.cells #[.int .i64 0, .int .i64 9223372036854775807] 82)).alloc (.cells #[.int .i64 (-1), .int .i64 9223372036854775807] 82)).alloc (.cells #[.int .i64 0, .int .i64 9223372036854775807, .int .i64 0, .int .i64 9223372036854775807, .int .i64 (-1), .int .i64 9223372036854775807] 82)) = W := ⟨_, rfl⟩
  have hs : W.heap.size = w.heap.size + 5 := by rw [← hW]; simp only [World.size_alloc]
  have hz : W.heap[w.heap.size]? = some shpZ := by rw [← hW]; exact shp_first5 w _ _ _ _
  have hr : SpnAt W (some ⟨w.heap.size + 1 + 1 + 1 + 1, 0, none⟩) (shpOf 14).nums := by
    refine spn_at ?_
    rw [← hW]
    have := heap_alloc_new ((((w.alloc shpZ).alloc (.cells #[.int .i64 (-9223372036854775808), .int .i64 9223372036854775807] 82)).alloc (.cells #[.int .i64 0, .int .i64 9223372036854775807] 82)).alloc (.cells #[.int .i64 (-1), .int .i64 9223372036854775807] 82)) (.cells #[.int .i64 0, .int .i64 9223372036854775807, .int .i64 0, .int .i64 9223372036854775807, .int .i64 (-1), .int .i64 9223372036854775807] 82)
    simp only [World.size_alloc] at this
    exact this
  have kb : Below w.heap.size w W := by rw [← hW]; exact shp_below5 w _ _ _ _ _
  have HW := hid hW
  clear hW
  go_enter Tryz.func31, Tryz.ntmps31
  go_wp2_with (rw [HW.out]; refine wpList_stored2 rfl rfl rfl rfl hz infoShp rfl rfl ?_; intro w9 hz9 hg9)
  refine bodyPost_ret (by simp [results, Tryz.results31, go_sem, cell_res hz9]; rfl) rfl ?_
  exact ⟨_, _, rfl, hr.grown hg9 (by omega) (by omega), by decide, kb.trans (grown_below' hg9 (Nat.le_refl _) (by omega))⟩

set_option maxRecDepth 100000 in
set_option maxHeartbeats 1000000 in
theorem shp_15 (w : World) : Calls Tryz.prog 31 #[.int .i64 15] w (RetShp w (shpOf 15)) := by
  obtain ⟨W, hW⟩ : ∃ W, (((((w.alloc shpZ).alloc (.cells #[.int .i64 (-9223372036854775808), .int .i64 9223372036854775807] 82)).alloc (.cells #[.int .i64 0, .int .i64 9223372036854775807] 82)).alloc (.cells #[.int .i64 (-1), .int .i64 9223372036854775807] 82)).alloc (.cells #[.int .i64 (-9223372036854775808), .int .i64 9223372036854775807, .int .i64 (-1), .int .i64 9223372036854775807] 82)) = W := ⟨_, rfl⟩
  have hs : W.heap.size = w.heap.size + 5 := by rw [← hW]; simp only [World.size_alloc]
  have hz : W.heap[w.heap.size]? = some shpZ := by rw [← hW]; exact shp_first5 w _ _ _ _
  have hr : SpnAt W (some ⟨w.heap.size + 1 + 1 + 1 + 1, 0, none⟩) (shpOf 15).nums := by
    refine spn_at ?_
    rw [← hW]
    have := heap_alloc_new ((((w.alloc shpZ).alloc (.cells #[.int .i64 (-9223372036854775808), .int .i64 9223372036854775807] 82)).alloc (.cells #[.int .i64 0, .int .i64 9223372036854775807] 82)).alloc (.cells #[.int .i64 (-1), .int .i64 9223372036854775807] 82)) (.cells #[.int .i64 (-9223372036854775808), .int .i64 9223372036854775807, .int .i64 (-1), .int .i64 9223372036854775807] 82)
    simp only [World.size_alloc] at this
    exact this
  have kb : Below w.heap.size w W := by rw [← hW]; exact shp_below5 w _ _ _ _ _
  have HW := hid hW
  clear hW
  go_enter Tryz.func31, Tryz.ntmps31
  go_wp2_with (rw [HW.out]; refine wpList_stored2 rfl rfl rfl rfl hz infoShp rfl rfl ?_; intro w9 hz9 hg9)
  refine bodyPost_ret (by simp [results, Tryz.results31, go_sem, cell_res hz9]; rfl) rfl ?_
  exact ⟨_, _, rfl, hr.grown hg9 (by omega) (by omega), by decide, kb.trans (grown_below' hg9 (Nat.le_refl _) (by omega))⟩

set_option maxRecDepth 100000 in
set_option maxHeartbeats 1000000 in
theorem shp_16 (w : World) : Calls Tryz.prog 31 #[.int .i64 16] w (RetShp w (shpOf 16)) := by
  obtain ⟨W, hW⟩ : ∃ W, (((((w.alloc shpZ).alloc (.cells #[.int .i64 (-9223372036854775808), .int .i64 9223372036854775807] 82)).alloc (.cells #[.int .i64 0, .int .i64 9223372036854775807] 82)).alloc (.cells #[.int .i64 (-1), .int .i64 9223372036854775807] 82)).alloc (.cells #[.int .i64 0, .int .i64 9223372036854775807, .int .i64 0, .int .i64 9223372036854775807] 82)) = W := ⟨_, rfl⟩
  have hs : W.heap.size = w.heap.size + 5 := by rw [← hW]; simp only [World.size_alloc]
  have hz : W.heap[w.heap.size]? = some shpZ := by rw [← hW]; exact shp_first5 w _ _ _ _
  have hr : SpnAt W (some ⟨w.heap.size + 1 + 1 + 1 + 1, 0, none⟩) (shpOf 16).nums := by
    refine spn_at ?_
    rw [← hW]
    have := heap_alloc_new ((((w.alloc shpZ).alloc (.cells #[.int .i64 (-9223372036854775808), .int .i64 9223372036854775807] 82)).alloc (.cells #[.int .i64 0, .int .i64 9223372036854775807] 82)).alloc (.cells #[.int .i64 (-1), .int .i64 9223372036854775807] 82)) (.cells #[.int .i64 0, .int .i64 9223372036854775807, .int .i64 0, .int .i64 9223372036854775807] 82)
    simp only [World.size_alloc] at this
    exact this
  have kb : Below w.heap.size w W := by rw [← hW]; exact shp_below5 w _ _ _ _ _
  have HW := hid hW
  clear hW
  go_enter Tryz.func31, Tryz.ntmps31
  go_wp2_with (rw [HW.out]; refine wpList_stored2 rfl rfl rfl rfl hz infoShp rfl rfl ?_; intro w9 hz9 hg9)
  refine bodyPost_ret (by simp [results, Tryz.results31, go_sem, cell_res hz9]; rfl) rfl ?_
  exact ⟨_, _, rfl, hr.grown hg9 (by omega) (by omega), by decide, kb.trans (grown_below' hg9 (Nat.le_refl _) (by omega))⟩

set_option maxRecDepth 100000 in
set_option maxHeartbeats 1000000 in
theorem shp_17 (w : World) : Calls Tryz.prog 31 #[.int .i64 17] w (RetShp w (shpOf 17)) := by
  obtain ⟨W, hW⟩ : ∃ W, ((((w.alloc shpZ).alloc (.cells #[.int .i64 (-9223372036854775808), .int .i64 9223372036854775807] 82)).alloc (.cells #[.int .i64 0, .int .i64 9223372036854775807] 82)).alloc (.cells #[.int .i64 (-1), .int .i64 9223372036854775807] 82)) = W := ⟨_, rfl⟩
  have hs : W.heap.size = w.heap.size + 4 := by rw [← hW]; simp only [World.size_alloc]
  have hz : W.heap[w.heap.size]? = some shpZ := by rw [← hW]; exact shp_first4 w _ _ _
  have kb : Below w.heap.size w W := by rw [← hW]; exact shp_below4 w _ _ _ _
  have HW := hid hW
  clear hW
  go_enter Tryz.func31, Tryz.ntmps31
  go_wp2_with (rw [HW.out]; refine wpList_stored2 rfl rfl rfl rfl hz infoShp rfl rfl ?_; intro w9 hz9 hg9)
  refine bodyPost_ret (by simp [results, Tryz.results31, go_sem, cell_res hz9]; rfl) rfl ?_
  exact ⟨none, 0, rfl, SpnAt.nil, by decide, kb.trans (grown_below' hg9 (Nat.le_refl _) (by omega))⟩

set_option maxRecDepth 100000 in
set_option maxHeartbeats 1000000 in
theorem shp_18 (w : World) : Calls Tryz.prog 31 #[.int .i64 18] w (RetShp w (shpOf 18)) := by
  obtain ⟨W, hW⟩ : ∃ W, (((((w.alloc shpZ).alloc (.cells #[.int .i64 (-9223372036854775808), .int .i64 9223372036854775807] 82)).alloc (.cells #[.int .i64 0, .int .i64 9223372036854775807] 82)).alloc (.cells #[.int .i64 (-1), .int .i64 9223372036854775807] 82)).alloc (.cells #[.int .i64 (-1), .int .i64 9223372036854775807] 82)) = W := ⟨_, rfl⟩
  have hs : W.heap.size = w.heap.size + 5 := by rw [← hW]; simp only [World.size_alloc]
  have hz : W.heap[w.heap.size]? = some shpZ := by rw [← hW]; exact shp_first5 w _ _ _ _
  have hr : SpnAt W (some ⟨w.heap.size + 1 + 1 + 1 + 1, 0, none⟩) (shpOf 18).nums := by
    refine spn_at ?_
    rw [← hW]
    have := heap_alloc_new ((((w.alloc shpZ).alloc (.cells #[.int .i64 (-9223372036854775808), .int .i64 9223372036854775807] 82)).alloc (.cells #[.int .i64 0, .int .i64 9223372036854775807] 82)).alloc (.cells #[.int .i64 (-1), .int .i64 9223372036854775807] 82)) (.cells #[.int .i64 (-1), .int .i64 9223372036854775807] 82)
    simp only [World.size_alloc] at this
    exact this
  have kb : Below w.heap.size w W := by rw [← hW]; exact shp_below5 w _ _ _ _ _
  have HW := hid hW
  clear hW
  go_enter Tryz.func31, Tryz.ntmps31
  go_wp2_with (rw [HW.out]; refine wpList_stored2 rfl rfl rfl rfl hz infoShp rfl rfl ?_; intro w9 hz9 hg9)
  refine bodyPost_ret (by simp [results, Tryz.results31, go_sem, cell_res hz9]; rfl) rfl ?_
  exact ⟨_, _, rfl, hr.grown hg9 (by omega) (by omega), by decide, kb.trans (grown_below' hg9 (Nat.le_refl _) (by omega))⟩

set_option maxRecDepth 100000 in
set_option maxHeartbeats 1000000 in
theorem shp_19 (w : World) : Calls Tryz.prog 31 #[.int .i64 19] w (RetShp w (shpOf 19)) := by
  obtain ⟨W, hW⟩ : ∃ W, ((((w.alloc shpZ).alloc (.cells #[.int .i64 (-9223372036854775808), .int .i64 9223372036854775807] 82)).alloc (.cells #[.int .i64 0, .int .i64 9223372036854775807] 82)).alloc (.cells #[.int .i64 (-1), .int .i64 9223372036854775807] 82)) = W := ⟨_, rfl⟩
  have hs : W.heap.size = w.heap.size + 4 := by rw [← hW]; simp only [World.size_alloc]
  have hz : W.heap[w.heap.size]? = some shpZ := by rw [← hW]; exact shp_first4 w _ _ _
  have kb : Below w.heap.size w W := by rw [← hW]; exact shp_below4 w _ _ _ _
  have HW := hid hW
  clear hW
  go_enter Tryz.func31, Tryz.ntmps31
  go_wp2_with (rw [HW.out]; refine wpList_stored2 rfl rfl rfl rfl hz infoShp rfl rfl ?_; intro w9 hz9 hg9)
  refine bodyPost_ret (by simp [results, Tryz.results31, go_sem, cell_res hz9]; rfl) rfl ?_
  exact ⟨none, 0, rfl, SpnAt.nil, by decide, kb.trans (grown_below' hg9 (Nat.le_refl _) (by omega))⟩
theorem shape_of {op : Nat} (h : op < 20) (w : World) : Calls Tryz.prog 31 #[.int .i64 op] w (RetShp w (shpOf op)) := by
  obtain rfl | rfl | rfl | rfl | rfl | rfl | rfl | rfl | rfl | rfl | rfl | rfl | rfl | rfl | rfl | rfl | rfl | rfl | rfl | rfl : op = 0 ∨ op = 1 ∨ op = 2 ∨ op = 3 ∨ op = 4 ∨ op = 5 ∨ op = 6 ∨ op = 7 ∨ op = 8 ∨ op = 9 ∨ op = 10 ∨ op = 11 ∨ op = 12 ∨ op = 13 ∨ op = 14 ∨ op = 15 ∨ op = 16 ∨ op = 17 ∨ op = 18 ∨ op = 19 := by omega
  · exact shp_0 w
  · exact shp_1 w
  · exact shp_2 w
  · exact shp_3 w
  · exact shp_4 w
  · exact shp_5 w
  · exact shp_6 w
  · exact shp_7 w
  · exact shp_8 w
  · exact shp_9 w
  · exact shp_10 w
  · exact shp_11 w
  · exact shp_12 w
  · exact shp_13 w
  · exact shp_14 w
  · exact shp_15 w
  · exact shp_16 w
  · exact shp_17 w
  · exact shp_18 w
  · exact shp_19 w
end
end Go.Proofs.YtjhnopnppimnhaaGreatDoor
