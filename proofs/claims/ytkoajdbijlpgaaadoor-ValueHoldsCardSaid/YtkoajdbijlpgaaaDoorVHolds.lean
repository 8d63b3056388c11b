/-
  WALK: ordinallaw01.ValueHolds.
-/
import Derived.Test.YtkoajdbijlpgaaaDoorVHolds0
import Derived.Test.YtkoajdbijlpgaaaDoorVHolds1
import Derived.Test.YtkoajdbijlpgaaaDoorVHolds2
import Derived.Test.YtkoajdbijlpgaaaDoorVHolds3
import Derived.Test.YtkoajdbijlpgaaaDoorVHolds4
import Derived.Test.YtkoajdbijlpgaaaDoorVHolds5
namespace Go.Proofs.YtkoajdbijlpgaaaDoor
open Go.RowKit

set_option maxRecDepth 100000 in
set_option maxHeartbeats 2000000 in
theorem law_vholds (a b : V) (op : Int) (w : World) (hE : Env w) :
    Calls Tryd.prog 15 #[.agg #[.int .i64 a.k, .int .i64 a.n, .string a.s], .int .i64 op, .agg #[.int .i64 b.k, .int .i64 b.n, .string b.s]] w fun e w' => e = .returned (.bool true) ∧ Below w.heap.size w w' := by
  have k0 : Below w.heap.size w ((w.alloc (.cells #[.int .i64 a.k, .int .i64 a.n, .string a.s] 41)).alloc (.cells #[.int .i64 b.k, .int .i64 b.n, .string b.s] 41)) := below_two w _ _
  have HG := hid (law_great (some ⟨w.heap.size + 1 + 1, 0, none⟩) 2 [a.s, b.s] _ (strsAt_new ((w.alloc (.cells #[.int .i64 a.k, .int .i64 a.n, .string a.s] 41)).alloc (.cells #[.int .i64 b.k, .int .i64 b.n, .string b.s] 41)) _ (by simp) [a.s, b.s] 9) (by simp) (x := greatL [a.s, b.s]) rfl)
  have HA := fun W (h : Below w.heap.size w W) => hid (awake1 W (hE.below h))
  cases hg : greatL [a.s, b.s]
  · rw [hg] at HG
    have hsz : a.s.size ≤ 300 ∧ b.s.size ≤ 300 := by simp [greatL] at hg; omega
    by_cases h0 : op < 0 ∨ 5 < op
    · have H1 := fun W => hid (value_holds a b op W (x := (false, 2)) (by unfold holdsL; rw [if_pos h0]))
      clear hE hg hsz
      rcases h0 with h0 | h0
      all_goals
        go_enter Tryd.func15, Tryd.ntmps15
        go_wp2_with fail
        refine (HG.out).mono ?_
        rintro e w1 ⟨rfl, b1⟩
        have k1 := k0.trans (((below_one _ _).trans (b1.mono (by simp))).mono k0.size)
        have hz0 : w1.heap[w.heap.size]? = some (.cells #[.int .i64 a.k, .int .i64 a.n, .string a.s] 41) := res_keep (res_keep (res_keep (heap_alloc_new w (.cells #[.int .i64 a.k, .int .i64 a.n, .string a.s] 41)) (below_one _ _) (by first | (simp; done) | (simp; omega))) (below_one _ _) (by first | (simp; done) | (simp; omega))) b1 (by first | (simp; done) | (simp; omega))
        have c00 := cell_res hz0 0
        have c01 := cell_res hz0 1
        have c02 := cell_res hz0 2
        have hz1 : w1.heap[w.heap.size + 1]? = some (.cells #[.int .i64 b.k, .int .i64 b.n, .string b.s] 41) := res_keep (res_keep (by simpa using heap_alloc_new (w.alloc (.cells #[.int .i64 a.k, .int .i64 a.n, .string a.s] 41)) (.cells #[.int .i64 b.k, .int .i64 b.n, .string b.s] 41)) (below_one _ _) (by first | (simp; done) | (simp; omega))) b1 (by first | (simp; done) | (simp; omega))
        have c10 := cell_res hz1 0
        have c11 := cell_res hz1 1
        have c12 := cell_res hz1 2
        clear b1 k0 HG hz0 hz1
        go_wp2_with fail
        refine ((H1 _).out).mono ?_
        rintro e w2 ⟨rfl, b2⟩
        have k2 := k1.trans (b2.mono k1.size)
        replace c00 := cell_keep b2 c00
        replace c01 := cell_keep b2 c01
        replace c02 := cell_keep b2 c02
        replace c10 := cell_keep b2 c10
        replace c11 := cell_keep b2 c11
        replace c12 := cell_keep b2 c12
        clear b2 k1
        clear H1 c00 c01 c02 c10 c11 c12
        go_wp2_with fail
        refine (HA _ k2).out.mono ?_
        rintro e w3 ⟨rfl, b3⟩
        have k3 := k2.trans (b3.mono k2.size)
        clear HA
        go_wp2
        go_ret
        exact ⟨rfl, k3⟩
    · have o1 : 0 ≤ op := by omega
      have o2 : op ≤ 5 := by omega
      have H2 := fun W => hid (law_of1 a W)
      have H4 := fun W => hid (law_of1 b W)
      cases va : a.valid
      · have H1 := fun W => hid (value_holds a b op W (x := (false, 4)) (by unfold holdsL; rw [if_neg h0, if_pos (.inl va)]))
        have H3 := fun W => hid (refV_valid a W va)
        clear hE hg hsz h0 va
        go_enter Tryd.func15, Tryd.ntmps15
        go_wp2_with fail
        refine (HG.out).mono ?_
        rintro e w1 ⟨rfl, b1⟩
        have k1 := k0.trans (((below_one _ _).trans (b1.mono (by simp))).mono k0.size)
        have hz0 : w1.heap[w.heap.size]? = some (.cells #[.int .i64 a.k, .int .i64 a.n, .string a.s] 41) := res_keep (res_keep (res_keep (heap_alloc_new w (.cells #[.int .i64 a.k, .int .i64 a.n, .string a.s] 41)) (below_one _ _) (by first | (simp; done) | (simp; omega))) (below_one _ _) (by first | (simp; done) | (simp; omega))) b1 (by first | (simp; done) | (simp; omega))
        have c00 := cell_res hz0 0
        have c01 := cell_res hz0 1
        have c02 := cell_res hz0 2
        have hz1 : w1.heap[w.heap.size + 1]? = some (.cells #[.int .i64 b.k, .int .i64 b.n, .string b.s] 41) := res_keep (res_keep (by simpa using heap_alloc_new (w.alloc (.cells #[.int .i64 a.k, .int .i64 a.n, .string a.s] 41)) (.cells #[.int .i64 b.k, .int .i64 b.n, .string b.s] 41)) (below_one _ _) (by first | (simp; done) | (simp; omega))) b1 (by first | (simp; done) | (simp; omega))
        have c10 := cell_res hz1 0
        have c11 := cell_res hz1 1
        have c12 := cell_res hz1 2
        clear b1 k0 HG hz0 hz1
        go_wp2_with fail
        refine ((H1 _).out).mono ?_
        rintro e w2 ⟨rfl, b2⟩
        have k2 := k1.trans (b2.mono k1.size)
        replace c00 := cell_keep b2 c00
        replace c01 := cell_keep b2 c01
        replace c02 := cell_keep b2 c02
        replace c10 := cell_keep b2 c10
        replace c11 := cell_keep b2 c11
        replace c12 := cell_keep b2 c12
        clear b2 k1
        go_wp2_with fail
        refine ((H2 _).out).mono ?_
        rintro e w3 ⟨rfl, b3⟩
        have k3 := k2.trans (b3.mono k2.size)
        replace c00 := cell_keep b3 c00
        replace c01 := cell_keep b3 c01
        replace c02 := cell_keep b3 c02
        replace c10 := cell_keep b3 c10
        replace c11 := cell_keep b3 c11
        replace c12 := cell_keep b3 c12
        clear b3 k2
        go_wp2_with fail
        refine ((H3 _).out).mono ?_
        rintro e w4 ⟨rfl, b4⟩
        have k4 := k3.trans (b4.mono k3.size)
        replace c00 := cell_keep b4 c00
        replace c01 := cell_keep b4 c01
        replace c02 := cell_keep b4 c02
        replace c10 := cell_keep b4 c10
        replace c11 := cell_keep b4 c11
        replace c12 := cell_keep b4 c12
        clear b4 k3
        clear H1 H2 H3 H4 c00 c01 c02 c10 c11 c12
        go_wp2_with fail
        refine (HA _ k4).out.mono ?_
        rintro e w5 ⟨rfl, b5⟩
        have k5 := k4.trans (b5.mono k4.size)
        clear HA
        go_wp2
        go_ret
        exact ⟨rfl, k5⟩
      · have H3 := fun W => hid (refV_valid a W va)
        cases vb : b.valid
        · have H1 := fun W => hid (value_holds a b op W (x := (false, 4)) (by unfold holdsL; rw [if_neg h0, if_pos (.inr vb)]))
          have H5 := fun W => hid (refV_valid b W vb)
          clear hE hg hsz h0 va vb
          go_enter Tryd.func15, Tryd.ntmps15
          go_wp2_with fail
          refine (HG.out).mono ?_
          rintro e w1 ⟨rfl, b1⟩
          have k1 := k0.trans (((below_one _ _).trans (b1.mono (by simp))).mono k0.size)
          have hz0 : w1.heap[w.heap.size]? = some (.cells #[.int .i64 a.k, .int .i64 a.n, .string a.s] 41) := res_keep (res_keep (res_keep (heap_alloc_new w (.cells #[.int .i64 a.k, .int .i64 a.n, .string a.s] 41)) (below_one _ _) (by first | (simp; done) | (simp; omega))) (below_one _ _) (by first | (simp; done) | (simp; omega))) b1 (by first | (simp; done) | (simp; omega))
          have c00 := cell_res hz0 0
          have c01 := cell_res hz0 1
          have c02 := cell_res hz0 2
          have hz1 : w1.heap[w.heap.size + 1]? = some (.cells #[.int .i64 b.k, .int .i64 b.n, .string b.s] 41) := res_keep (res_keep (by simpa using heap_alloc_new (w.alloc (.cells #[.int .i64 a.k, .int .i64 a.n, .string a.s] 41)) (.cells #[.int .i64 b.k, .int .i64 b.n, .string b.s] 41)) (below_one _ _) (by first | (simp; done) | (simp; omega))) b1 (by first | (simp; done) | (simp; omega))
          have c10 := cell_res hz1 0
          have c11 := cell_res hz1 1
          have c12 := cell_res hz1 2
          clear b1 k0 HG hz0 hz1
          go_wp2_with fail
          refine ((H1 _).out).mono ?_
          rintro e w2 ⟨rfl, b2⟩
          have k2 := k1.trans (b2.mono k1.size)
          replace c00 := cell_keep b2 c00
          replace c01 := cell_keep b2 c01
          replace c02 := cell_keep b2 c02
          replace c10 := cell_keep b2 c10
          replace c11 := cell_keep b2 c11
          replace c12 := cell_keep b2 c12
          clear b2 k1
          go_wp2_with fail
          refine ((H2 _).out).mono ?_
          rintro e w3 ⟨rfl, b3⟩
          have k3 := k2.trans (b3.mono k2.size)
          replace c00 := cell_keep b3 c00
          replace c01 := cell_keep b3 c01
          replace c02 := cell_keep b3 c02
          replace c10 := cell_keep b3 c10
          replace c11 := cell_keep b3 c11
          replace c12 := cell_keep b3 c12
          clear b3 k2
          go_wp2_with fail
          refine ((H3 _).out).mono ?_
          rintro e w4 ⟨rfl, b4⟩
          have k4 := k3.trans (b4.mono k3.size)
          replace c00 := cell_keep b4 c00
          replace c01 := cell_keep b4 c01
          replace c02 := cell_keep b4 c02
          replace c10 := cell_keep b4 c10
          replace c11 := cell_keep b4 c11
          replace c12 := cell_keep b4 c12
          clear b4 k3
          go_wp2_with fail
          refine ((H4 _).out).mono ?_
          rintro e w5 ⟨rfl, b5⟩
          have k5 := k4.trans (b5.mono k4.size)
          replace c00 := cell_keep b5 c00
          replace c01 := cell_keep b5 c01
          replace c02 := cell_keep b5 c02
          replace c10 := cell_keep b5 c10
          replace c11 := cell_keep b5 c11
          replace c12 := cell_keep b5 c12
          clear b5 k4
          go_wp2_with fail
          refine ((H5 _).out).mono ?_
          rintro e w6 ⟨rfl, b6⟩
          have k6 := k5.trans (b6.mono k5.size)
          replace c00 := cell_keep b6 c00
          replace c01 := cell_keep b6 c01
          replace c02 := cell_keep b6 c02
          replace c10 := cell_keep b6 c10
          replace c11 := cell_keep b6 c11
          replace c12 := cell_keep b6 c12
          clear b6 k5
          clear H1 H2 H3 H4 H5 c00 c01 c02 c10 c11 c12
          go_wp2_with fail
          refine (HA _ k6).out.mono ?_
          rintro e w7 ⟨rfl, b7⟩
          have k7 := k6.trans (b7.mono k6.size)
          clear HA
          go_wp2
          go_ret
          exact ⟨rfl, k7⟩
        · obtain rfl | rfl | rfl | rfl | rfl | rfl : op = 0 ∨ op = 1 ∨ op = 2 ∨ op = 3 ∨ op = 4 ∨ op = 5 := by omega
          · exact law_vholds0 a b w hE hg va vb
          · exact law_vholds1 a b w hE hg va vb
          · exact law_vholds2 a b w hE hg va vb
          · exact law_vholds3 a b w hE hg va vb
          · exact law_vholds4 a b w hE hg va vb
          · exact law_vholds5 a b w hE hg va vb
  · rw [hg] at HG
    clear hE hg
    go_enter Tryd.func15, Tryd.ntmps15
    go_wp2_with fail
    refine (HG.out).mono ?_
    rintro e w1 ⟨rfl, b1⟩
    have k1 := k0.trans (((below_one _ _).trans (b1.mono (by simp))).mono k0.size)
    clear b1 k0 HG
    go_wp2_with fail
    refine (HA _ k1).out.mono ?_
    rintro e w2 ⟨rfl, b2⟩
    have k2 := k1.trans (b2.mono k1.size)
    clear HA
    go_wp2
    go_ret
    exact ⟨rfl, k2⟩
end Go.Proofs.YtkoajdbijlpgaaaDoor
