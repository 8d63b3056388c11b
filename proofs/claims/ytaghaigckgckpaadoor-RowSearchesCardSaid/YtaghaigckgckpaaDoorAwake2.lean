/-
  WALK: the examples of chapter 2 (ordinallaw02.awake).
-/
import Derived.Test.YtaghaigckgckpaaDoorProj
namespace Go.Proofs.YtaghaigckgckpaaDoor
open Go.RowKit

theorem rowAt_lit {w : World} {g : Nat} {t : TypeId} {fz : Nat × Nat} (r : List V) (h : w.heap[g]? = some (.cells (flat r).toArray t fz)) : RowAt w (some ⟨g, 0, none⟩) r := by
  intro hp
  refine ⟨g, 0, rfl, fun i hi => ?_⟩
  obtain ⟨e0, e1, e2⟩ := flat_get r i hi
  refine ⟨?_, ?_, ?_⟩
  · rw [cell_of_row w g _ _ t fz h, Nat.zero_add]; simpa using e0
  · rw [cell_of_row w g _ _ t fz h, Nat.zero_add]; simpa using e1
  · rw [cell_of_row w g _ _ t fz h, Nat.zero_add]; simpa using e2

theorem intsAt_lit {w : World} {g : Nat} {t : TypeId} {fz : Nat × Nat} (l : List Int) (h : w.heap[g]? = some (.cells (l.map (Value.int .i64)).toArray t fz)) : IntsAt w (some ⟨g, 0, none⟩) l := by
  intro hp
  refine ⟨g, 0, rfl, fun i hi => ?_⟩
  rw [cell_of_row w g _ _ t fz h, Nat.zero_add]
  simp [hi]

theorem boolsAt_lit {w : World} {g : Nat} {t : TypeId} {fz : Nat × Nat} (l : List Bool) (h : w.heap[g]? = some (.cells (l.map Value.bool).toArray t fz)) : BoolsAt w (some ⟨g, 0, none⟩) l := by
  intro hp
  refine ⟨g, 0, rfl, fun i hi => ?_⟩
  rw [cell_of_row w g _ _ t fz h, Nat.zero_add]
  simp [hi]

def exA : List V := [⟨1, 1, ⟨#[]⟩⟩, ⟨2, 0, ⟨#[97]⟩⟩]
def exB : List V := [⟨1, 1, ⟨#[]⟩⟩, ⟨2, 0, ⟨#[98]⟩⟩]
def exT : List V := [⟨1, -3, ⟨#[]⟩⟩, ⟨2, 0, ⟨#[120, 34, 121]⟩⟩]

theorem ex1 : rowCmp [] exA exB = -1 := by decide +kernel
theorem ex2 : rowCmp [false, true] exA exB = 1 := by decide +kernel
theorem ex3 : rowCmp [true, true] ([1].map intV) ([1, 2].map intV) = -1 := by decide +kernel
theorem ex4 : projV ([5, 6, 7].map intV) [2, 0, 2] = [7, 5, 7].map intV := by rfl
theorem ex5 : decide (rowCmp [] ([7, 5, 7].map intV) ([7, 5, 7].map intV) = 0) = true := by decide +kernel
theorem ex6 : rowTextL exT = [40, 45, 51, 44, 32, 34, 120, 92, 34, 121, 34, 41] := by
  have e1 : textL ⟨1, -3, ⟨#[]⟩⟩ = [45, 51] := by
    rw [textL_int (by decide +kernel) rfl]; unfold Lib.itoa Lib.decDigits; rfl
  have e2 : textL ⟨2, 0, ⟨#[120, 34, 121]⟩⟩ = [34, 120, 92, 34, 121, 34] := by
    rw [textL_str (by decide +kernel) (by decide)]; decide
  simp only [rowTextL, rowBody, exT, e1, e2, List.flatMap_cons, List.flatMap_nil]
  rfl
theorem exTok : ∀ v ∈ exT, v.ok := by
  intro v hv
  simp [exT] at hv
  rcases hv with rfl | rfl
  · exact ⟨⟨by decide, by decide⟩, ⟨by decide, by decide⟩, by decide⟩
  · exact ⟨⟨by decide, by decide⟩, ⟨by decide, by decide⟩, by decide⟩

theorem heap1 (w : World) (o1 : Obj) : (w.alloc o1).heap[w.heap.size]? = some o1 := heap_alloc_new w o1
theorem heap2 (w : World) (o1 o2 : Obj) : ((w.alloc o1).alloc o2).heap[w.heap.size]? = some o1 ∧ ((w.alloc o1).alloc o2).heap[w.heap.size + 1]? = some o2 :=
  ⟨(Below.heap_alloc _ _ _ (by simp)).trans (heap1 w o1), by have := heap_alloc_new (w.alloc o1) o2; simpa using this⟩
theorem heap3 (w : World) (o1 o2 o3 : Obj) : (((w.alloc o1).alloc o2).alloc o3).heap[w.heap.size]? = some o1 ∧ (((w.alloc o1).alloc o2).alloc o3).heap[w.heap.size + 1]? = some o2 ∧ (((w.alloc o1).alloc o2).alloc o3).heap[w.heap.size + 1 + 1]? = some o3 :=
  ⟨(Below.heap_alloc _ _ _ (by simp; omega)).trans (heap2 w o1 o2).1, (Below.heap_alloc _ _ _ (by simp)).trans (heap2 w o1 o2).2, by have := heap_alloc_new ((w.alloc o1).alloc o2) o3; simpa using this⟩

set_option maxRecDepth 100000 in
set_option maxHeartbeats 1000000 in
theorem awake2 (w : World) (ht : Tab w) : Calls Tryd.prog 6 #[] w fun e w' => e = .returned (.bool true) ∧ Below w.heap.size w w' := by
  have h3 := heap3 w (.cells (flat exA).toArray 43) (.cells (flat exB).toArray 43) (.cells (([5, 6, 7] : List Int).map (Value.int .i64)).toArray 2)
  have hA := rowAt_lit exA h3.1
  have hB := rowAt_lit exB h3.2.1
  have hI := intsAt_lit [5, 6, 7] h3.2.2
  have hb := below_three w (.cells (flat exA).toArray 43) (.cells (flat exB).toArray 43) (.cells (([5, 6, 7] : List Int).map (Value.int .i64)).toArray 2)
  have c1 := law_ints (some ⟨w.heap.size + 1 + 1, 0, none⟩) 3 [5, 6, 7] _ hI (by simp)
  clear h3 hI
  have C1 := hid c1
  have Ht := hid ht
  clear c1 ht
  go_enter Tryd.func6, Tryd.ntmps6
  go_wp2_with fail
  refine (C1.out).mono ?_
  rintro e w1 ⟨A1, n1, rfl, hR, hb1⟩
  have hA1 := hA.below hb1
  have hB1 := hB.below hb1
  have hw1 := hb.trans (hb1.mono hb.size)
  clear C1 hA hB hb hb1
  -- Project
  have c2 := row_project A1 (some ⟨w1.heap.size, 0, none⟩) n1 3 ([5, 6, 7].map intV) [2, 0, 2] (w1.alloc (.cells (([2, 0, 2] : List Int).map (Value.int .i64)).toArray 3)) (hR.below (below_one _ _)) (intsAt_lit [2, 0, 2] (heap1 _ _)) (by simp) (by simp)
  have C2 := hid c2
  clear c2
  go_wp2_with fail
  refine (C2.out).mono ?_
  rintro e w2 ⟨hp, -, hb2⟩
  obtain ⟨g, n2, rfl, hown⟩ := hp (by decide)
  rw [ex4] at hown
  obtain ⟨A2, n2', he2, hP⟩ := own_row (r := [7, 5, 7].map intV) hown
  injection he2 with he2 he3 he4
  subst he2 he4
  clear he3
  have hb2' := (below_one w1 _).trans (hb2.mono (by simp))
  have hA2 := hA1.below hb2'
  have hB2 := hB1.below hb2'
  have hw2 := hw1.trans (hb2'.mono hw1.size)
  clear hA1 hB1 hw1 C2 hb2 hb2' hR hown
  -- Text
  have c3 := row_text (some ⟨w2.heap.size, 0, none⟩) 2 exT (w2.alloc (.cells (flat exT).toArray 43)) (rowAt_lit exT (heap1 _ _)) (by decide) exTok (Ht.out.below (hw2.trans ((below_one w2 _).mono hw2.size)))
  rw [ex6] at c3
  have C3 := hid c3
  clear c3
  go_wp2_with fail
  refine (C3.out).mono ?_
  rintro e w3 ⟨rfl, hb3⟩
  have hb3' := (below_one w2 _).trans (hb3.mono (by simp))
  have hA3 := hA2.below hb3'
  have hB3 := hB2.below hb3'
  have hP3 := hP.below hb3'
  have hw3 := hw2.trans (hb3'.mono hw2.size)
  clear hA2 hB2 hP hw2 hb3 hb3' C3
  -- Compare
  have C4 := hid (row_compare (some ⟨w.heap.size, 0, none⟩) (some ⟨w.heap.size + 1, 0, none⟩) 2 2 exA exB w3 ex1 hA3 hB3 (by decide) (by decide))
  go_wp2_with fail
  refine (C4.out).mono ?_
  rintro e w4 ⟨rfl, hb4⟩
  have hA4 := hA3.below hb4
  have hB4 := hB3.below hb4
  have hP4 := hP3.below hb4
  have hw4 := hw3.trans (hb4.mono hw3.size)
  clear hA3 hB3 hP3 hw3 hb4 C4
  -- CompareBy
  have hx5 := below_one w4 (.cells (([false, true] : List Bool).map Value.bool).toArray 4)
  have C5 := hid (compareBy (some ⟨w.heap.size, 0, none⟩) (some ⟨w.heap.size + 1, 0, none⟩) (some ⟨w4.heap.size, 0, none⟩) 2 2 2 exA exB [false, true] _ ex2 (hA4.below hx5) (hB4.below hx5) (boolsAt_lit _ (heap1 _ _)) (by decide) (by decide) (by decide))
  go_wp2_with fail
  refine (C5.out).mono ?_
  rintro e w5 ⟨rfl, hb5⟩
  have hb5' := hx5.trans (hb5.mono (by simp))
  have hP5 := hP4.below hb5'
  have hw5 := hw4.trans (hb5'.mono hw4.size)
  clear hA4 hB4 hP4 hw4 hx5 hb5 hb5' C5
  -- Ints
  have C6 := hid (law_ints (some ⟨w5.heap.size, 0, none⟩) 1 [1] (w5.alloc (.cells (([1] : List Int).map (Value.int .i64)).toArray 2)) (intsAt_lit [1] (heap1 _ _)) (by decide))
  go_wp2_with fail
  refine (C6.out).mono ?_
  rintro e w6 ⟨A6, n6, rfl, hI6, hb6⟩
  have hb6' := (below_one w5 _).trans (hb6.mono (by simp))
  have hP6 := hP5.below hb6'
  have hw6 := hw5.trans (hb6'.mono hw5.size)
  clear hP5 hw5 hb6 hb6' C6
  have C7 := hid (law_ints (some ⟨w6.heap.size, 0, none⟩) 2 [1, 2] (w6.alloc (.cells (([1, 2] : List Int).map (Value.int .i64)).toArray 2)) (intsAt_lit [1, 2] (heap1 _ _)) (by decide))
  go_wp2_with fail
  refine (C7.out).mono ?_
  rintro e w7 ⟨A7, n7, rfl, hI7, hb7⟩
  have hb7' := (below_one w6 _).trans (hb7.mono (by simp))
  have hP7 := hP6.below hb7'
  have hI6' := hI6.below hb7'
  have hw7 := hw6.trans (hb7'.mono hw6.size)
  clear hP6 hw6 hb7 hb7' hI6 C7
  -- CompareBy
  have hx8 := below_one w7 (.cells (([true, true] : List Bool).map Value.bool).toArray 4)
  have C8 := hid (compareBy A6 A7 (some ⟨w7.heap.size, 0, none⟩) n6 n7 2 ([1].map intV) ([1, 2].map intV) [true, true] _ ex3 (hI6'.below hx8) (hI7.below hx8) (boolsAt_lit _ (heap1 _ _)) (by decide) (by decide) (by decide))
  go_wp2_with fail
  refine (C8.out).mono ?_
  rintro e w8 ⟨rfl, hb8⟩
  have hb8' := hx8.trans (hb8.mono (by simp))
  have hP8 := hP7.below hb8'
  have hw8 := hw7.trans (hb8'.mono hw7.size)
  clear hP7 hI6' hI7 hw7 hx8 hb8 hb8' C8
  -- Ints, Equal
  have C9 := hid (law_ints (some ⟨w8.heap.size, 0, none⟩) 3 [7, 5, 7] (w8.alloc (.cells (([7, 5, 7] : List Int).map (Value.int .i64)).toArray 2)) (intsAt_lit [7, 5, 7] (heap1 _ _)) (by decide))
  go_wp2_with fail
  refine (C9.out).mono ?_
  rintro e w9 ⟨A9, n9, rfl, hI9, hb9⟩
  have hb9' := (below_one w8 _).trans (hb9.mono (by simp))
  have hP9 := hP8.below hb9'
  have hw9 := hw8.trans (hb9'.mono hw8.size)
  clear hP8 hw8 hb9 hb9' C9
  have C10 := hid (row_equal (some ⟨g, 0, none⟩) A9 n2 n9 ([7, 5, 7].map intV) ([7, 5, 7].map intV) w9 ex5 hP9 hI9 (by decide) (by decide))
  go_wp2_with fail
  refine (C10.out).mono ?_
  rintro e w10 ⟨rfl, hb10⟩
  have hw10 := hw9.trans (hb10.mono hw9.size)
  clear hP9 hI9 hw9 hb10 C10
  go_wp2
  go_ret
  exact ⟨rfl, hw10⟩
end Go.Proofs.YtaghaigckgckpaaDoor
