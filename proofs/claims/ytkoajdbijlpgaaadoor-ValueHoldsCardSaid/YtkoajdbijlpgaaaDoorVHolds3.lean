/-
  WALK: ordinallaw01.ValueHolds, the operator 3.
-/
import Derived.Test.YtkoajdbijlpgaaaDoorHolds
import Derived.Test.YtkoajdbijlpgaaaDoorAwake1
import Derived.Test.YtkoajdbijlpgaaaDoorKit3
import Derived.Test.YtkoajdbijlpgaaaDoorValid
import Derived.Test.YtkoajdbijlpgaaaDoorOrd
import Derived.Deep.DeepCutAuto
import Derived.Deep.RegionWith
namespace Go.Proofs.YtkoajdbijlpgaaaDoor
open Go.RowKit

set_option maxRecDepth 100000 in
set_option maxHeartbeats 4000000 in
theorem law_vholds3 (a b : V) (w : World) (hE : Env w) (hg : greatL [a.s, b.s] = false) (va : a.valid = true) (vb : b.valid = true) :
    Calls Tryd.prog 15 #[.agg #[.int .i64 a.k, .int .i64 a.n, .string a.s], .int .i64 3, .agg #[.int .i64 b.k, .int .i64 b.n, .string b.s]] w fun e w' => e = .returned (.bool true) ∧ Below w.heap.size w w' := by
  have k0 : Below w.heap.size w ((w.alloc (.cells #[.int .i64 a.k, .int .i64 a.n, .string a.s] 41)).alloc (.cells #[.int .i64 b.k, .int .i64 b.n, .string b.s] 41)) := below_two w _ _
  have HG := hid (law_great (some ⟨w.heap.size + 1 + 1, 0, none⟩) 2 [a.s, b.s] _ (strsAt_new ((w.alloc (.cells #[.int .i64 a.k, .int .i64 a.n, .string a.s] 41)).alloc (.cells #[.int .i64 b.k, .int .i64 b.n, .string b.s] 41)) _ (by simp) [a.s, b.s] 9) (by simp) (x := greatL [a.s, b.s]) rfl)
  have HA := fun W (h : Below w.heap.size w W) => hid (awake1 W (hE.below h))
  rw [hg] at HG
  have hsz : a.s.size ≤ 300 ∧ b.s.size ≤ 300 := by simp [greatL] at hg; omega
  obtain ⟨i, hi⟩ : ∃ i, holdsB 3 (V.cmp a b) = i := ⟨_, rfl⟩
  have hn := holds_not 3 (V.cmp a b) (by omega) (by omega)
  have hn2 : holdsB 4 (V.cmp a b) = !holdsB 3 (V.cmp a b) := hn
  have H1 := fun W => hid (value_holds a b 3 W (x := (i, 0)) (by unfold holdsL; rw [if_neg (by omega), if_neg (by rw [va, vb]; simp), hi]))
  have H6 := fun W => hid (value_holds a b 4 W (x := (!i, 0)) (by unfold holdsL; rw [if_neg (by omega), if_neg (by rw [va, vb]; simp), hn2, hi]))
  have H2 := fun W => hid (law_of1 a W)
  have H4 := fun W => hid (law_of1 b W)
  have H3 := fun W => hid (refV_valid a W va)
  have H5 := fun W => hid (refV_valid b W vb)
  have H7 := fun W => hid (ref_holds a b 3 W (by omega) (by omega) (by omega) (by omega) hi)
  clear hE hg hsz va vb hi hn hn2
  go_enter Tryd.func15, Tryd.ntmps15
  go_wp2_with fail
  refine (HG.out).mono ?_
  rintro e w1 ⟨rfl, b1⟩
  have k1 := k0.trans (((below_one _ _).trans (b1.mono (by simp))).mono k0.size)
  have hz0 : w1.heap[w.heap.size]? = some (.cells #[.int .i64 a.k, .int .i64 a.n, .string a.s] 41) := res_keep (res_keep (res_keep (heap_alloc_new w (.cells #[.int .i64 a.k, .int .i64 a.n, .string a.s] 41)) (below_one _ _) (by first | (simp; done) | (simp; omega))) (below_one _ _) (by first | (simp; done) | (simp; omega))) b1 (by first | (simp; done) | (simp; omega))
  have c00 := cell_res hz0 0
  have c01 := cell_res hz0 1
  have c02 := cell_res hz0 2
  have hz1 : w1.heap[w.heap.size + 1]? = some (.cells #[.int .i64 b.k, .int .i64 b.n, .string b.s] 41) := res_keep (res_keep (by simpa using heap_alloc_new (w.alloc (.cells #[.int .i64 a.k, .int .i64 a.n, .string a.s] 41)) (.cells #[.int .i64 b.k, .int .i64 b.n, .string b.s] 41)) (below_one _ _) (by first | (simp; done) | (simp; omega))) b1 (by first | (simp; done) | (simp; omega))
  have c10 := cell_res hz1 0
  have c11 := cell_res hz1 1
  have c12 := cell_res hz1 2
  clear b1 k0 HG hz0 hz1
  go_wp2_with fail
  refine ((H1 _).out).mono ?_
  rintro e w2 ⟨rfl, b2⟩
  have k2 := k1.trans (b2.mono k1.size)
  replace c00 := cell_keep b2 c00
  replace c01 := cell_keep b2 c01
  replace c02 := cell_keep b2 c02
  replace c10 := cell_keep b2 c10
  replace c11 := cell_keep b2 c11
  replace c12 := cell_keep b2 c12
  clear b2 k1
  go_wp2_with fail
  refine ((H2 _).out).mono ?_
  rintro e w3 ⟨rfl, b3⟩
  have k3 := k2.trans (b3.mono k2.size)
  replace c00 := cell_keep b3 c00
  replace c01 := cell_keep b3 c01
  replace c02 := cell_keep b3 c02
  replace c10 := cell_keep b3 c10
  replace c11 := cell_keep b3 c11
  replace c12 := cell_keep b3 c12
  clear b3 k2
  go_wp2_with fail
  refine ((H3 _).out).mono ?_
  rintro e w4 ⟨rfl, b4⟩
  have k4 := k3.trans (b4.mono k3.size)
  replace c00 := cell_keep b4 c00
  replace c01 := cell_keep b4 c01
  replace c02 := cell_keep b4 c02
  replace c10 := cell_keep b4 c10
  replace c11 := cell_keep b4 c11
  replace c12 := cell_keep b4 c12
  clear b4 k3
  go_wp2_with fail
  refine ((H4 _).out).mono ?_
  rintro e w5 ⟨rfl, b5⟩
  have k5 := k4.trans (b5.mono k4.size)
  replace c00 := cell_keep b5 c00
  replace c01 := cell_keep b5 c01
  replace c02 := cell_keep b5 c02
  replace c10 := cell_keep b5 c10
  replace c11 := cell_keep b5 c11
  replace c12 := cell_keep b5 c12
  clear b5 k4
  go_wp2_with fail
  refine ((H5 _).out).mono ?_
  rintro e w6 ⟨rfl, b6⟩
  have k6 := k5.trans (b6.mono k5.size)
  replace c00 := cell_keep b6 c00
  replace c01 := cell_keep b6 c01
  replace c02 := cell_keep b6 c02
  replace c10 := cell_keep b6 c10
  replace c11 := cell_keep b6 c11
  replace c12 := cell_keep b6 c12
  clear b6 k5
  have hl0 := cell_lt c00
  have hl1 := cell_lt c10
  clear H1 H3 H5
  go_wp2_with fail
  go_cut [9, 10] (fun s9 s10 wx => s9 = .bool (!i) ∧ s10 = .int .i64 0 ∧ Below w6.heap.size w6 wx)
  case first =>
    clear HA H2 H4 H7 k6
    go_region_with (refine (H6 _).out.mono ?_; rintro e w7 ⟨rfl, b7⟩)
    all_goals
      go_wp2_with fail
      go_meet
      exact ⟨rfl, rfl, Below.trans (by repeat (first | exact Below.refl _ _ | apply Below.drew | refine Below.alloc ?_ (by simp) _)) (b7.mono (by simp))⟩
  case rest =>
    obtain ⟨rfl, rfl, b7⟩ := hcut
    have k7 := k6.trans (b7.mono k6.size)
    replace c00 := fun p : BelowBy wc => by_cell (cell_keep b7 c00) p
    replace c01 := fun p : BelowBy wc => by_cell (cell_keep b7 c01) p
    replace c02 := fun p : BelowBy wc => by_cell (cell_keep b7 c02) p
    replace c10 := fun p : BelowBy wc => by_cell (cell_keep b7 c10) p
    replace c11 := fun p : BelowBy wc => by_cell (cell_keep b7 c11) p
    replace c12 := fun p : BelowBy wc => by_cell (cell_keep b7 c12) p
    have HA2 := fun p : BelowBy wc => hid (HA p.to (k7.trans (p.le.mono k7.size))).out
    clear HA b7 H6 k6 hl0 hl1
    go_wp2_with fail
    refine wp_region_below (by kernel_rfl) (by kernel_rfl) ?_
    repeat (go_big_quiet_step (first | with_reducible exact calls_by (H2 _).out | with_reducible exact calls_by (H4 _).out | with_reducible exact calls_by (H7 _).out | with_reducible exact calls_by (HA2 _).out))
    refine wpQuiet_nil ?_
    rintro _ ⟨⟨wq, kq⟩, rfl⟩
    go_wp2
    go_ret
    exact ⟨rfl, k7.trans (kq.mono k7.size)⟩
end Go.Proofs.YtkoajdbijlpgaaaDoor
