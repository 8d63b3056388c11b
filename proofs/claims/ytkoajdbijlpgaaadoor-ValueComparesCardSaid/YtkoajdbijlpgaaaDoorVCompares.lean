/-
  WALK: ordinallaw01.ValueCompares.
-/
import Derived.Test.YtkoajdbijlpgaaaDoorAwake1
import Derived.Test.YtkoajdbijlpgaaaDoorKit3
import Derived.Test.YtkoajdbijlpgaaaDoorRefCmp
import Derived.Test.YtkoajdbijlpgaaaDoorOrd
import Derived.Test.YtkoajdbijlpgaaaDoorVeq
namespace Go.Proofs.YtkoajdbijlpgaaaDoor
open Go.RowKit

set_option maxRecDepth 100000 in
set_option maxHeartbeats 2000000 in
theorem law_vcompares (a b : V) (w : World) (hE : Env w) :
    Calls Tryd.prog 10 #[.agg #[.int .i64 a.k, .int .i64 a.n, .string a.s], .agg #[.int .i64 b.k, .int .i64 b.n, .string b.s]] w fun e w' => e = .returned (.bool true) ∧ Below w.heap.size w w' := by
  have k0 := below_two w (.cells #[.int .i64 a.k, .int .i64 a.n, .string a.s] 41) (.cells #[.int .i64 b.k, .int .i64 b.n, .string b.s] 41)
  have HG := hid (law_great (some ⟨w.heap.size + 1 + 1, 0, none⟩) 2 [a.s, b.s] _ (strsAt_new ((w.alloc (.cells #[.int .i64 a.k, .int .i64 a.n, .string a.s] 41)).alloc (.cells #[.int .i64 b.k, .int .i64 b.n, .string b.s] 41)) _ (by simp) [a.s, b.s] 9) (by simp) (x := greatL [a.s, b.s]) rfl)
  cases hg : greatL [a.s, b.s]
  · rw [hg] at HG
    have HA := fun W (h : Below w.heap.size w W) => hid (awake1 W (hE.below h))
    have hsz : a.s.size ≤ 300 ∧ b.s.size ≤ 300 := by simp [greatL] at hg; omega
    obtain ⟨x, hx⟩ : ∃ x, V.cmp a b = x := ⟨_, rfl⟩
    have H1 := fun W => hid (value_cmp a b W hx)
    have H2 := fun W => hid (value_cmp b a W (x := -x) (by rw [V.cmp_ord.anti, hx]))
    have H3 := fun W => hid (law_of1 a W)
    have H4 := fun W => hid (law_of1 b W)
    have H5 := fun W => hid (refV_cmp a b W (by omega) (by omega) hx)
    have hwr : wrap64 (-x) = -x := by
      have := V.cmp_range a b
      rw [hx] at this
      obtain h | h | h : x = -1 ∨ x = 0 ∨ x = 1 := by omega
      all_goals (subst h; simp [wrap64])
    clear hE hg hsz
    have hy : ∃ y, veq a b = y ∧ (x == 0) = y := by
      by_cases hab : a = b
      · exact ⟨true, veq_iff.2 hab, by rw [← hx, V.cmp_zero.2 hab]; rfl⟩
      · exact ⟨false, veq_false hab, by simp; intro e; exact hab (V.cmp_zero.1 (hx.trans e))⟩
    obtain ⟨y, hy, hx0⟩ := hy
    have EQ := eq_val a b hy
    have GV := guardVal
    clear hx hy
    cases y
    all_goals
      go_enter Tryd.func10, Tryd.ntmps10
      go_wp2_with fail
      refine (HG.out).mono ?_
      rintro e w1 ⟨rfl, b1⟩
      have k1 := k0.trans (((below_one _ _).trans (b1.mono (by simp))).mono k0.size)
      have hz1 : w1.heap[w.heap.size]? = some (.cells #[.int .i64 a.k, .int .i64 a.n, .string a.s] 41) := res_keep (res_keep (res_keep (heap_alloc_new w _) (below_one _ _) (by simp)) (below_one _ _) (by simp; omega)) b1 (by simp; omega)
      have hz2 : w1.heap[w.heap.size + 1]? = some (.cells #[.int .i64 b.k, .int .i64 b.n, .string b.s] 41) := res_keep (res_keep (by simpa using heap_alloc_new (w.alloc (.cells #[.int .i64 a.k, .int .i64 a.n, .string a.s] 41)) _) (below_one _ _) (by simp)) b1 (by simp)
      have c0 := fun p : BelowBy w1 => by_cell (cell_res hz1 0) p
      have c1 := fun p : BelowBy w1 => by_cell (cell_res hz1 1) p
      have c2 := fun p : BelowBy w1 => by_cell (cell_res hz1 2) p
      have d0 := fun p : BelowBy w1 => by_cell (cell_res hz2 0) p
      have d1 := fun p : BelowBy w1 => by_cell (cell_res hz2 1) p
      have d2 := fun p : BelowBy w1 => by_cell (cell_res hz2 2) p
      have HA2 := fun p : BelowBy w1 => hid (HA p.to (k1.trans (p.le.mono k1.size))).out
      clear b1 k0 HG hz1 hz2 HA
      go_wp2_with fail
      refine wp_region_below (by kernel_rfl) (by kernel_rfl) ?_
      repeat (go_big_quiet_step (first | with_reducible exact calls_by (H1 _).out | with_reducible exact calls_by (H2 _).out | with_reducible exact calls_by (H3 _).out | with_reducible exact calls_by (H4 _).out | with_reducible exact calls_by (H5 _).out | with_reducible exact calls_by (HA2 _).out))
      refine wpQuiet_nil ?_
      rintro _ ⟨⟨wq, kq⟩, rfl⟩
      go_wp2
      go_ret
      exact ⟨rfl, k1.trans (kq.mono k1.size)⟩
  · rw [hg] at HG
    have HA := fun W (h : Below w.heap.size w W) => hid (awake1 W (hE.below h))
    clear hE hg
    go_enter Tryd.func10, Tryd.ntmps10
    go_wp2_with fail
    refine (HG.out).mono ?_
    rintro e w1 ⟨rfl, b1⟩
    have k1 := k0.trans (((below_one _ _).trans (b1.mono (by simp))).mono k0.size)
    clear b1 k0 HG
    go_wp2_with fail
    refine (HA _ k1).out.mono ?_
    rintro e w2 ⟨rfl, b2⟩
    have k2 := k1.trans (b2.mono k1.size)
    clear HA
    go_wp2
    go_ret
    exact ⟨rfl, k2⟩
end Go.Proofs.YtkoajdbijlpgaaaDoor
