/-
  WALK: ordinallaw01.ValueOrders.
-/
import Derived.Test.YtkoajdbijlpgaaaDoorAwake1
import Derived.Test.YtkoajdbijlpgaaaDoorKit3
import Derived.Test.YtkoajdbijlpgaaaDoorOrd
namespace Go.Proofs.YtkoajdbijlpgaaaDoor
open Go.RowKit

theorem cmp_three (a b c : V) : (V.cmp a b = 0 ∧ V.cmp b c = 0 ∧ V.cmp a c = 0) ∨ (V.cmp a b = 0 ∧ V.cmp b c = -1 ∧ V.cmp a c = -1) ∨ (V.cmp a b = 0 ∧ V.cmp b c = 1 ∧ V.cmp a c = 1)
    ∨ (V.cmp a b = -1 ∧ V.cmp b c = 0 ∧ V.cmp a c = -1) ∨ (V.cmp a b = 1 ∧ V.cmp b c = 0 ∧ V.cmp a c = 1) ∨ (V.cmp a b = -1 ∧ V.cmp b c = -1 ∧ V.cmp a c = -1) ∨ (V.cmp a b = 1 ∧ V.cmp b c = 1 ∧ V.cmp a c = 1)
    ∨ (V.cmp a b = -1 ∧ V.cmp b c = 1 ∧ V.cmp a c = -1) ∨ (V.cmp a b = -1 ∧ V.cmp b c = 1 ∧ V.cmp a c = 0) ∨ (V.cmp a b = -1 ∧ V.cmp b c = 1 ∧ V.cmp a c = 1)
    ∨ (V.cmp a b = 1 ∧ V.cmp b c = -1 ∧ V.cmp a c = -1) ∨ (V.cmp a b = 1 ∧ V.cmp b c = -1 ∧ V.cmp a c = 0) ∨ (V.cmp a b = 1 ∧ V.cmp b c = -1 ∧ V.cmp a c = 1) := by
  have r1 := V.cmp_range a b
  have r2 := V.cmp_range b c
  have r3 := V.cmp_range a c
  have t1 := V.cmp_ord.trans a b c
  have t2 := V.cmp_ord.trans c b a
  have a1 := V.cmp_ord.anti a b
  have a2 := V.cmp_ord.anti b c
  have a3 := V.cmp_ord.anti a c
  generalize V.cmp a b = x at *
  generalize V.cmp b c = y at *
  generalize V.cmp a c = z at *
  generalize V.cmp b a = x' at *
  generalize V.cmp c b = y' at *
  generalize V.cmp c a = z' at *
  obtain hx | hx | hx : x = -1 ∨ x = 0 ∨ x = 1 := by omega
  all_goals obtain hy | hy | hy : y = -1 ∨ y = 0 ∨ y = 1 := by omega
  all_goals obtain hz | hz | hz : z = -1 ∨ z = 0 ∨ z = 1 := by omega
  all_goals first
    | (exfalso; omega)
    | (clear r1 r2 r3 t1 t2 a1 a2 a3; subst hx hy hz; decide)
theorem cmp_kinds (a b : V) {x : Int} (hx : V.cmp a b = x) : x = -1 ∨ (a.k != 1) = true ∨ ((a.k != 1) = false ∧ (b.k != 2) = true) := by
  by_cases h1 : a.k = 1
  · by_cases h2 : b.k = 2
    · left
      rw [← hx, V.cmp_k (by omega), h1, h2]; decide
    · right; right
      exact ⟨by simpa using h1, by simpa using h2⟩
  · right; left; simpa using h1

set_option maxRecDepth 100000 in
set_option maxHeartbeats 2000000 in
theorem law_vorders (a b c : V) (w : World) (hE : Env w) :
    Calls Tryd.prog 11 #[.agg #[.int .i64 a.k, .int .i64 a.n, .string a.s], .agg #[.int .i64 b.k, .int .i64 b.n, .string b.s], .agg #[.int .i64 c.k, .int .i64 c.n, .string c.s]] w fun e w' => e = .returned (.bool true) ∧ Below w.heap.size w w' := by
  have k0 : Below w.heap.size w (((w.alloc (.cells #[.int .i64 a.k, .int .i64 a.n, .string a.s] 41)).alloc (.cells #[.int .i64 b.k, .int .i64 b.n, .string b.s] 41)).alloc (.cells #[.int .i64 c.k, .int .i64 c.n, .string c.s] 41)) := below_three w _ _ _
  have HG := hid (law_great (some ⟨w.heap.size + 1 + 1 + 1, 0, none⟩) 3 [a.s, b.s, c.s] _ (strsAt_new (((w.alloc (.cells #[.int .i64 a.k, .int .i64 a.n, .string a.s] 41)).alloc (.cells #[.int .i64 b.k, .int .i64 b.n, .string b.s] 41)).alloc (.cells #[.int .i64 c.k, .int .i64 c.n, .string c.s] 41)) _ (by simp) [a.s, b.s, c.s] 9) (by simp) (x := greatL [a.s, b.s, c.s]) rfl)
  have HA := fun W (h : Below w.heap.size w W) => hid (awake1 W (hE.below h))
  cases hg : greatL [a.s, b.s, c.s]
  · rw [hg] at HG
    obtain ⟨x, hx⟩ : ∃ x, V.cmp a b = x := ⟨_, rfl⟩
    obtain ⟨y, hy⟩ : ∃ y, V.cmp b c = y := ⟨_, rfl⟩
    obtain ⟨z, hz⟩ : ∃ z, V.cmp a c = z := ⟨_, rfl⟩
    have H1 := fun W => hid (value_cmp a b W hx)
    have H2 := fun W => hid (value_cmp b c W hy)
    have H3 := fun W => hid (value_cmp a c W hz)
    have h3 := cmp_three a b c
    rw [hx, hy, hz] at h3
    have hk := cmp_kinds a b hx
    have HXYZ := hid h3
    have HK := hid hk
    clear hE hg hx hy hz h3 hk
    go_enter Tryd.func11, Tryd.ntmps11
    go_wp2_with fail
    refine (HG.out).mono ?_
    rintro e w1 ⟨rfl, b1⟩
    have k1 := k0.trans (((below_one _ _).trans (b1.mono (by simp))).mono k0.size)
    have hz0 : w1.heap[w.heap.size]? = some (.cells #[.int .i64 a.k, .int .i64 a.n, .string a.s] 41) := res_keep (res_keep (res_keep (res_keep (heap_alloc_new w (.cells #[.int .i64 a.k, .int .i64 a.n, .string a.s] 41)) (below_one _ _) (by first | (simp; done) | (simp; omega))) (below_one _ _) (by first | (simp; done) | (simp; omega))) (below_one _ _) (by first | (simp; done) | (simp; omega))) b1 (by first | (simp; done) | (simp; omega))
    have c00 := cell_res hz0 0
    have c01 := cell_res hz0 1
    have c02 := cell_res hz0 2
    have hz1 : w1.heap[w.heap.size + 1]? = some (.cells #[.int .i64 b.k, .int .i64 b.n, .string b.s] 41) := res_keep (res_keep (res_keep (by simpa using heap_alloc_new (w.alloc (.cells #[.int .i64 a.k, .int .i64 a.n, .string a.s] 41)) (.cells #[.int .i64 b.k, .int .i64 b.n, .string b.s] 41)) (below_one _ _) (by first | (simp; done) | (simp; omega))) (below_one _ _) (by first | (simp; done) | (simp; omega))) b1 (by first | (simp; done) | (simp; omega))
    have c10 := cell_res hz1 0
    have c11 := cell_res hz1 1
    have c12 := cell_res hz1 2
    have hz2 : w1.heap[w.heap.size + 1 + 1]? = some (.cells #[.int .i64 c.k, .int .i64 c.n, .string c.s] 41) := res_keep (res_keep (by simpa using heap_alloc_new ((w.alloc (.cells #[.int .i64 a.k, .int .i64 a.n, .string a.s] 41)).alloc (.cells #[.int .i64 b.k, .int .i64 b.n, .string b.s] 41)) (.cells #[.int .i64 c.k, .int .i64 c.n, .string c.s] 41)) (below_one _ _) (by first | (simp; done) | (simp; omega))) b1 (by first | (simp; done) | (simp; omega))
    have c20 := cell_res hz2 0
    have c21 := cell_res hz2 1
    have c22 := cell_res hz2 2
    clear b1 k0 HG hz0 hz1 hz2
    have e00 := hid c00
    have e10 := hid c10
    replace c00 := fun p : BelowBy w1 => by_cell c00 p
    replace c01 := fun p : BelowBy w1 => by_cell c01 p
    replace c02 := fun p : BelowBy w1 => by_cell c02 p
    replace c10 := fun p : BelowBy w1 => by_cell c10 p
    replace c11 := fun p : BelowBy w1 => by_cell c11 p
    replace c12 := fun p : BelowBy w1 => by_cell c12 p
    replace c20 := fun p : BelowBy w1 => by_cell c20 p
    replace c21 := fun p : BelowBy w1 => by_cell c21 p
    replace c22 := fun p : BelowBy w1 => by_cell c22 p
    go_wp2_with fail
    refine wp_region_below (by kernel_rfl) (by kernel_rfl) ?_
    repeat (go_big_quiet_step (first | with_reducible exact calls_by (H1 _).out | with_reducible exact calls_by (H2 _).out | with_reducible exact calls_by (H3 _).out))
    refine wpQuiet_nil ?_
    rintro _ ⟨⟨wq, kq⟩, rfl⟩
    have f00 := cell_keep kq e00.out
    have f10 := cell_keep kq e10.out
    have k2 := k1.trans (kq.mono k1.size)
    clear c00 c01 c02 c10 c11 c12 c20 c21 c22 e00 e10 H1 H2 H3 kq k1
    rcases HXYZ.out with ⟨rfl, rfl, rfl⟩ | ⟨rfl, rfl, rfl⟩ | ⟨rfl, rfl, rfl⟩ | ⟨rfl, rfl, rfl⟩ | ⟨rfl, rfl, rfl⟩ | ⟨rfl, rfl, rfl⟩ | ⟨rfl, rfl, rfl⟩ | ⟨rfl, rfl, rfl⟩ | ⟨rfl, rfl, rfl⟩ | ⟨rfl, rfl, rfl⟩ | ⟨rfl, rfl, rfl⟩ | ⟨rfl, rfl, rfl⟩ | ⟨rfl, rfl, rfl⟩
    all_goals
      clear HXYZ
      rcases HK.out with hx1 | hx1 | ⟨hx1, hx2⟩
      all_goals first
        | (exfalso; clear HA; revert hx1; decide)
        | (clear HK
           go_wp2_with fail
           all_goals
             refine (HA _ k2).out.mono ?_
             rintro e w2 ⟨rfl, b2⟩
             have k3 := k2.trans (b2.mono k2.size)
             go_wp2
             go_ret
             exact ⟨rfl, k3⟩)
  · rw [hg] at HG
    clear hE hg
    go_enter Tryd.func11, Tryd.ntmps11
    go_wp2_with fail
    refine (HG.out).mono ?_
    rintro e w1 ⟨rfl, b1⟩
    have k1 := k0.trans (((below_one _ _).trans (b1.mono (by simp))).mono k0.size)
    clear b1 k0 HG
    go_wp2_with fail
    refine (HA _ k1).out.mono ?_
    rintro e w2 ⟨rfl, b2⟩
    have k2 := k1.trans (b2.mono k1.size)
    clear HA
    go_wp2
    go_ret
    exact ⟨rfl, k2⟩
end Go.Proofs.YtkoajdbijlpgaaaDoor
