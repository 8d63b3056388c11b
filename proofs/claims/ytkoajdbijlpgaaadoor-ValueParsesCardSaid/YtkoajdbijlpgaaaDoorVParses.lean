/-
  WALK: ordinallaw01.ValueParses.
-/
import Derived.Test.YtkoajdbijlpgaaaDoorRt4
import Derived.Test.YtkoajdbijlpgaaaDoorAwake1
import Derived.Test.YtkoajdbijlpgaaaDoorKit3
import Derived.Test.YtkoajdbijlpgaaaDoorVeq
import Derived.Test.YtkoajdbijlpgaaaDoorOpen
namespace Go.Proofs.YtkoajdbijlpgaaaDoor
open Go.RowKit

theorem str_back (s : ByteArray) : (⟨s.data.toList.toArray⟩ : ByteArray) = s := ByteArray.ext (by simp)
theorem text_back {w : World} {v : V} {s : ByteArray} (h : Calls Tryd.prog 47 #[.agg #[.int .i64 v.k, .int .i64 v.n, .string v.s]] w fun e w' => e = .returned (.string ⟨s.data.toList.toArray⟩) ∧ Below w.heap.size w w') :
    Calls Tryd.prog 47 #[.agg #[.int .i64 v.k, .int .i64 v.n, .string v.s]] w fun e w' => e = .returned (.string s) ∧ Below w.heap.size w w' := by
  rw [str_back] at h; exact h

set_option maxRecDepth 100000 in
set_option maxHeartbeats 2000000 in
theorem law_vparses (s : ByteArray) (w : World) (hE : Env w) :
    Calls Tryd.prog 13 #[.string s] w fun e w' => e = .returned (.bool true) ∧ Below w.heap.size w w' := by
  have k0 : Below w.heap.size w w := Below.refl _ _
  have HG := hid (law_great (some ⟨w.heap.size, 0, none⟩) 1 [s] _ (strsAt_new w _ (by simp) [s] 9) (by simp) (x := greatL [s]) rfl)
  have HA := fun W (h : Below w.heap.size w W) => hid (awake1 W (hE.below h))
  cases hg : greatL [s]
  · rw [hg] at HG
    have hsz : s.size ≤ 300 := by simp [greatL] at hg; omega
    obtain ⟨⟨v, q⟩, hx⟩ : ∃ x, parseL s.data.toList = x := ⟨_, rfl⟩
    have H1 := fun W (h : Below w.heap.size w W) => hid (parse_lit s W (by omega) (hE.below h).err hx)
    have H2 := fun W => hid (ref_parse s W (by omega) hx)
    have H3 := fun W => hid (law_of1 v W)
    have EQ := eq_ref v v (x := true) (veq_iff.2 rfl)
    have GV := guardRef
    by_cases hq : q = 0
    · subst hq
      obtain ⟨_, g2, g3, g4⟩ := text_parse hx
      have H4 := fun W (h : Below w.heap.size w W) => hid (text_back (value_text v W g3 (by omega) (hE.below h).tab g2))
      clear hE hg hx g2 g3 g4
      go_enter Tryd.func13, Tryd.ntmps13
      go_wp2_with fail
      refine (HG.out).mono ?_
      rintro e w1 ⟨rfl, b1⟩
      have k1 := k0.trans (((below_one _ _).trans (b1.mono (by simp))).mono k0.size)
      clear b1 k0 HG
      go_wp2_with fail
      refine ((H1 _ k1).out).mono ?_
      rintro e w2 ⟨rfl, b2⟩
      have k2 := k1.trans (b2.mono k1.size)
      clear b2 k1
      go_wp2_with fail
      have d3 := below_one w2 (.cells #[.int .i64 v.k, .int .i64 v.n, .string v.s] 41)
      have hz3 := heap_alloc_new w2 (.cells #[.int .i64 v.k, .int .i64 v.n, .string v.s] 41)
      have c0 := cell_res hz3 0
      have c1 := cell_res hz3 1
      have c2 := cell_res hz3 2
      have k3 := k2.trans (d3.mono k2.size)
      generalize hw3 : w2.alloc (.cells #[.int .i64 v.k, .int .i64 v.n, .string v.s] 41) = w3 at *
      clear d3 k2 hz3 hw3
      refine ((H2 _).out).mono ?_
      rintro e w4 ⟨rfl, b4⟩
      have k4 := k3.trans (b4.mono k3.size)
      replace c0 := cell_keep b4 c0
      replace c1 := cell_keep b4 c1
      replace c2 := cell_keep b4 c2
      clear b4 k3
      go_wp2_with fail
      have d5 := below_one w4 (.cells #[.int .i64 v.k, .int .i64 v.n, .string v.s] 66)
      have hz5 := heap_alloc_new w4 (.cells #[.int .i64 v.k, .int .i64 v.n, .string v.s] 66)
      replace c0 := cell_keep d5 c0
      replace c1 := cell_keep d5 c1
      replace c2 := cell_keep d5 c2
      have m0 := cell_res hz5 0
      have m1 := cell_res hz5 1
      have m2 := cell_res hz5 2
      have k5 := k4.trans (d5.mono k4.size)
      generalize hw5 : w4.alloc (.cells #[.int .i64 v.k, .int .i64 v.n, .string v.s] 66) = w5 at *
      clear d5 k4 hz5 hw5
      replace c0 := fun p : BelowBy w5 => by_cell c0 p
      replace c1 := fun p : BelowBy w5 => by_cell c1 p
      replace c2 := fun p : BelowBy w5 => by_cell c2 p
      replace m0 := fun p : BelowBy w5 => by_cell m0 p
      replace m1 := fun p : BelowBy w5 => by_cell m1 p
      replace m2 := fun p : BelowBy w5 => by_cell m2 p
      have H5 := fun p : BelowBy w5 => hid (H4 p.to (k5.trans (p.le.mono k5.size))).out
      clear H4
      have HA2 := fun p : BelowBy w5 => hid (HA p.to (k5.trans (p.le.mono k5.size))).out
      clear HA H1 H2
      refine wp_region_below (by kernel_rfl) (by kernel_rfl) ?_
      repeat (go_big_quiet_step (first | with_reducible exact calls_by (H3 _).out | with_reducible exact calls_by (H5 _).out | with_reducible exact calls_by (HA2 _).out))
      refine wpQuiet_nil ?_
      rintro _ ⟨⟨wq, kq⟩, rfl⟩
      go_wp2
      go_ret
      exact ⟨rfl, k5.trans (kq.mono k5.size)⟩
    · have bq : (q != 0) = true := by simpa using hq
      clear hE hg hx hq
      go_enter Tryd.func13, Tryd.ntmps13
      go_wp2_with fail
      refine (HG.out).mono ?_
      rintro e w1 ⟨rfl, b1⟩
      have k1 := k0.trans (((below_one _ _).trans (b1.mono (by simp))).mono k0.size)
      clear b1 k0 HG
      go_wp2_with fail
      refine ((H1 _ k1).out).mono ?_
      rintro e w2 ⟨rfl, b2⟩
      have k2 := k1.trans (b2.mono k1.size)
      clear b2 k1
      go_wp2_with fail
      have d3 := below_one w2 (.cells #[.int .i64 v.k, .int .i64 v.n, .string v.s] 41)
      have hz3 := heap_alloc_new w2 (.cells #[.int .i64 v.k, .int .i64 v.n, .string v.s] 41)
      have c0 := cell_res hz3 0
      have c1 := cell_res hz3 1
      have c2 := cell_res hz3 2
      have k3 := k2.trans (d3.mono k2.size)
      generalize hw3 : w2.alloc (.cells #[.int .i64 v.k, .int .i64 v.n, .string v.s] 41) = w3 at *
      clear d3 k2 hz3 hw3
      refine ((H2 _).out).mono ?_
      rintro e w4 ⟨rfl, b4⟩
      have k4 := k3.trans (b4.mono k3.size)
      replace c0 := cell_keep b4 c0
      replace c1 := cell_keep b4 c1
      replace c2 := cell_keep b4 c2
      clear b4 k3
      go_wp2_with fail
      have d5 := below_one w4 (.cells #[.int .i64 v.k, .int .i64 v.n, .string v.s] 66)
      have hz5 := heap_alloc_new w4 (.cells #[.int .i64 v.k, .int .i64 v.n, .string v.s] 66)
      replace c0 := cell_keep d5 c0
      replace c1 := cell_keep d5 c1
      replace c2 := cell_keep d5 c2
      have m0 := cell_res hz5 0
      have m1 := cell_res hz5 1
      have m2 := cell_res hz5 2
      have k5 := k4.trans (d5.mono k4.size)
      generalize hw5 : w4.alloc (.cells #[.int .i64 v.k, .int .i64 v.n, .string v.s] 66) = w5 at *
      clear d5 k4 hz5 hw5
      replace c0 := fun p : BelowBy w5 => by_cell c0 p
      replace c1 := fun p : BelowBy w5 => by_cell c1 p
      replace c2 := fun p : BelowBy w5 => by_cell c2 p
      replace m0 := fun p : BelowBy w5 => by_cell m0 p
      replace m1 := fun p : BelowBy w5 => by_cell m1 p
      replace m2 := fun p : BelowBy w5 => by_cell m2 p
      have HA2 := fun p : BelowBy w5 => hid (HA p.to (k5.trans (p.le.mono k5.size))).out
      clear HA H1 H2
      refine wp_region_below (by kernel_rfl) (by kernel_rfl) ?_
      repeat (go_big_quiet_step (first | with_reducible exact calls_by (H3 _).out | with_reducible exact calls_by (HA2 _).out))
      refine wpQuiet_nil ?_
      rintro _ ⟨⟨wq, kq⟩, rfl⟩
      go_wp2
      go_ret
      exact ⟨rfl, k5.trans (kq.mono k5.size)⟩
  · rw [hg] at HG
    clear hE hg
    go_enter Tryd.func13, Tryd.ntmps13
    go_wp2_with fail
    refine (HG.out).mono ?_
    rintro e w1 ⟨rfl, b1⟩
    have k1 := k0.trans (((below_one _ _).trans (b1.mono (by simp))).mono k0.size)
    clear b1 k0 HG
    go_wp2_with fail
    refine (HA _ k1).out.mono ?_
    rintro e w2 ⟨rfl, b2⟩
    have k2 := k1.trans (b2.mono k1.size)
    clear HA
    go_wp2
    go_ret
    exact ⟨rfl, k2⟩
end Go.Proofs.YtkoajdbijlpgaaaDoor
