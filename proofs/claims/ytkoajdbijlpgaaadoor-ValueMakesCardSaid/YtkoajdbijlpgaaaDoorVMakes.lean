/-
  WALK: ordinallaw01.ValueMakes.
-/
import Derived.Test.YtkoajdbijlpgaaaDoorRt4
import Derived.Test.YtkoajdbijlpgaaaDoorAwake1
import Derived.Test.YtkoajdbijlpgaaaDoorKit3
import Derived.Test.YtkoajdbijlpgaaaDoorRefCmp
import Derived.Test.YtkoajdbijlpgaaaDoorOrd
import Derived.Test.YtkoajdbijlpgaaaDoorVeq
import Derived.Test.YtkoajdbijlpgaaaDoorValid
namespace Go.Proofs.YtkoajdbijlpgaaaDoor
open Go.RowKit

theorem valid_int (n : Int) : (⟨1, n, ⟨#[]⟩⟩ : V).valid = true := by unfold V.valid; rw [if_pos rfl, Lib.toList_data]; rfl
theorem strV_s (s : ByteArray) : (⟨s.data.toList.toArray⟩ : ByteArray) = s := ByteArray.ext (by simp)

set_option maxRecDepth 100000 in
set_option maxHeartbeats 2000000 in
theorem law_vmakes (v : V) (n : Int) (s : ByteArray) (w : World) (hE : Env w) :
    Calls Tryd.prog 9 #[.agg #[.int .i64 v.k, .int .i64 v.n, .string v.s], .int .i64 n, .string s] w fun e w' => e = .returned (.bool true) ∧ Below w.heap.size w w' := by
  have k0 : Below w.heap.size w (w.alloc (.cells #[.int .i64 v.k, .int .i64 v.n, .string v.s] 41)) := below_one w _
  have HG := hid (law_great (some ⟨w.heap.size + 1, 0, none⟩) 2 [v.s, s] _ (strsAt_new (w.alloc (.cells #[.int .i64 v.k, .int .i64 v.n, .string v.s] 41)) _ (by simp) [v.s, s] 9) (by simp) (x := greatL [v.s, s]) rfl)
  have HA := fun W (h : Below w.heap.size w W) => hid (awake1 W (hE.below h))
  cases hg : greatL [v.s, s]
  · rw [hg] at HG
    have hsz : s.size ≤ 300 := by simp [greatL] at hg; omega
    obtain ⟨y, hy⟩ : ∃ y, v.valid = y := ⟨_, rfl⟩
    have H1 := fun W => hid (value_valid v W hy)
    have H2 := fun W => hid (law_of1 v W)
    have H3 := fun W => hid (refV_valid v W hy)
    have H4 := fun W => hid (value_int n W)
    have H5 := fun W => hid (value_valid ⟨1, n, ⟨#[]⟩⟩ W (valid_int n))
    have EQ := eq_val3 1 n ⟨#[]⟩ 1 n ⟨#[]⟩ (x := true) (veq_iff.2 rfl)
    have GV := guardVal
    clear hE hg hy
    by_cases h24 : 24 < s.size
    · have HS := fun W => hid (value_str s W (by omega) (x := (⟨0, 0, ⟨#[]⟩⟩, 13)) (by unfold makeStr; rw [if_pos (by simpa using h24)]; rfl))
      have EQ0 := eq_val3 0 0 ⟨#[]⟩ 0 0 ⟨#[]⟩ (x := true) (veq_iff.2 rfl)
      cases y
      all_goals
        go_enter Tryd.func9, Tryd.ntmps9
        go_wp2_with fail
        refine (HG.out).mono ?_
        rintro e w1 ⟨rfl, b1⟩
        have k1 := k0.trans (((below_one _ _).trans (b1.mono (by simp))).mono k0.size)
        have hz0 : w1.heap[w.heap.size]? = some (.cells #[.int .i64 v.k, .int .i64 v.n, .string v.s] 41) := res_keep (res_keep (heap_alloc_new w (.cells #[.int .i64 v.k, .int .i64 v.n, .string v.s] 41)) (below_one _ _) (by first | (simp; done) | (simp; omega))) b1 (by first | (simp; done) | (simp; omega))
        have c00 := cell_res hz0 0
        have c01 := cell_res hz0 1
        have c02 := cell_res hz0 2
        clear b1 k0 HG hz0
        go_wp2_with fail
        refine ((HS _).out).mono ?_
        rintro e w2 ⟨rfl, b2⟩
        have k2 := k1.trans (b2.mono k1.size)
        replace c00 := cell_keep b2 c00
        replace c01 := cell_keep b2 c01
        replace c02 := cell_keep b2 c02
        clear b2 k1
        clear HS
        go_wp2_with fail
        have d3 := below_one w2 (.cells #[.int .i64 0, .int .i64 0, .string ⟨#[]⟩] 41)
        replace c00 := cell_keep d3 c00
        replace c01 := cell_keep d3 c01
        replace c02 := cell_keep d3 c02
        have k3 := k2.trans (d3.mono k2.size)
        generalize w2.alloc (.cells #[.int .i64 0, .int .i64 0, .string ⟨#[]⟩] 41) = w3 at *
        clear d3 k2
        replace c00 := fun p : BelowBy w3 => by_cell c00 p
        replace c01 := fun p : BelowBy w3 => by_cell c01 p
        replace c02 := fun p : BelowBy w3 => by_cell c02 p
        have HA2 := fun p : BelowBy w3 => hid (HA p.to (k3.trans (p.le.mono k3.size))).out
        clear HA
        refine wp_region_below (by kernel_rfl) (by kernel_rfl) ?_
        repeat (go_big_quiet_step (first | with_reducible exact calls_by (H1 _).out | with_reducible exact calls_by (H2 _).out | with_reducible exact calls_by (H3 _).out | with_reducible exact calls_by (H4 _).out | with_reducible exact calls_by (H5 _).out | with_reducible exact calls_by (HA2 _).out))
        refine wpQuiet_nil ?_
        rintro _ ⟨⟨wq, kq⟩, rfl⟩
        go_wp2
        go_ret
        exact ⟨rfl, k3.trans (kq.mono k3.size)⟩
    · have HS := fun W => hid (value_str s W (by omega) (x := (⟨2, 0, s⟩, 0)) (by unfold makeStr; rw [if_neg (by simpa using h24)]; unfold strV; rw [strV_s]))
      have EQ0 := eq_val3 2 0 s 2 0 s (x := true) (veq_iff.2 rfl)
      have H6 := fun W => hid (value_valid ⟨2, 0, s⟩ W (x := true) (by simp [V.valid]; omega))
      cases y
      all_goals
        go_enter Tryd.func9, Tryd.ntmps9
        go_wp2_with fail
        refine (HG.out).mono ?_
        rintro e w1 ⟨rfl, b1⟩
        have k1 := k0.trans (((below_one _ _).trans (b1.mono (by simp))).mono k0.size)
        have hz0 : w1.heap[w.heap.size]? = some (.cells #[.int .i64 v.k, .int .i64 v.n, .string v.s] 41) := res_keep (res_keep (heap_alloc_new w (.cells #[.int .i64 v.k, .int .i64 v.n, .string v.s] 41)) (below_one _ _) (by first | (simp; done) | (simp; omega))) b1 (by first | (simp; done) | (simp; omega))
        have c00 := cell_res hz0 0
        have c01 := cell_res hz0 1
        have c02 := cell_res hz0 2
        clear b1 k0 HG hz0
        go_wp2_with fail
        refine ((HS _).out).mono ?_
        rintro e w2 ⟨rfl, b2⟩
        have k2 := k1.trans (b2.mono k1.size)
        replace c00 := cell_keep b2 c00
        replace c01 := cell_keep b2 c01
        replace c02 := cell_keep b2 c02
        clear b2 k1
        clear HS
        go_wp2_with fail
        refine ((H6 _).out).mono ?_
        rintro e w3 ⟨rfl, b3⟩
        have d3 := (below_one w2 _).trans (b3.mono (by simp))
        have k3 := k2.trans (d3.mono k2.size)
        replace c00 := cell_keep d3 c00
        replace c01 := cell_keep d3 c01
        replace c02 := cell_keep d3 c02
        clear b3 k2
        clear H6
        go_wp2_with fail
        replace c00 := fun p : BelowBy w3 => by_cell c00 p
        replace c01 := fun p : BelowBy w3 => by_cell c01 p
        replace c02 := fun p : BelowBy w3 => by_cell c02 p
        have HA2 := fun p : BelowBy w3 => hid (HA p.to (k3.trans (p.le.mono k3.size))).out
        clear HA
        refine wp_region_below (by kernel_rfl) (by kernel_rfl) ?_
        repeat (go_big_quiet_step (first | with_reducible exact calls_by (H1 _).out | with_reducible exact calls_by (H2 _).out | with_reducible exact calls_by (H3 _).out | with_reducible exact calls_by (H4 _).out | with_reducible exact calls_by (H5 _).out | with_reducible exact calls_by (HA2 _).out))
        refine wpQuiet_nil ?_
        rintro _ ⟨⟨wq, kq⟩, rfl⟩
        go_wp2
        go_ret
        exact ⟨rfl, k3.trans (kq.mono k3.size)⟩
  · rw [hg] at HG
    clear hE hg
    go_enter Tryd.func9, Tryd.ntmps9
    go_wp2_with fail
    refine (HG.out).mono ?_
    rintro e w1 ⟨rfl, b1⟩
    have k1 := k0.trans (((below_one _ _).trans (b1.mono (by simp))).mono k0.size)
    clear b1 k0 HG
    go_wp2_with fail
    refine (HA _ k1).out.mono ?_
    rintro e w2 ⟨rfl, b2⟩
    have k2 := k1.trans (b2.mono k1.size)
    clear HA
    go_wp2
    go_ret
    exact ⟨rfl, k2⟩
end Go.Proofs.YtkoajdbijlpgaaaDoor
