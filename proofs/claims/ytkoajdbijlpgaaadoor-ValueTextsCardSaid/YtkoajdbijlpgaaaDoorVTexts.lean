/-
  WALK: ordinallaw01.ValueTexts.
-/
import Derived.Test.YtkoajdbijlpgaaaDoorRt4
import Derived.Test.YtkoajdbijlpgaaaDoorAwake1
import Derived.Test.YtkoajdbijlpgaaaDoorKit3
import Derived.Test.YtkoajdbijlpgaaaDoorValid
import Derived.Test.YtkoajdbijlpgaaaDoorVeq
import Derived.Test.YtkoajdbijlpgaaaDoorOpen
namespace Go.Proofs.YtkoajdbijlpgaaaDoor
open Go.RowKit

theorem textL_size {v : V} (h : v.wf) (hs : v.s.size ≤ 300) : (textL v).length ≤ 2000 := by
  unfold textL
  split
  · split
    · have := Lib.itoa_length_le v.n h.n.1 h.n.2; omega
    · have := quoteL_le v.s.data.toList
      have hs : v.s.data.toList.length ≤ 300 := by simpa using hs
      omega
  · simp
theorem arr_list (l : List UInt8) : (⟨l.toArray⟩ : ByteArray).data.toList = l := by simp

set_option maxRecDepth 100000 in
set_option maxHeartbeats 2000000 in
theorem law_vtexts (v : V) (hw : v.wf) (w : World) (hE : Env w) :
    Calls Tryd.prog 12 #[.agg #[.int .i64 v.k, .int .i64 v.n, .string v.s]] w fun e w' => e = .returned (.bool true) ∧ Below w.heap.size w w' := by
  have k0 : Below w.heap.size w (w.alloc (.cells #[.int .i64 v.k, .int .i64 v.n, .string v.s] 41)) := below_one w _
  have HG := hid (law_great (some ⟨w.heap.size + 1, 0, none⟩) 1 [v.s] _ (strsAt_new (w.alloc (.cells #[.int .i64 v.k, .int .i64 v.n, .string v.s] 41)) _ (by simp) [v.s] 9) (by simp) (x := greatL [v.s]) rfl)
  have HA := fun W (h : Below w.heap.size w W) => hid (awake1 W (hE.below h))
  cases hg : greatL [v.s]
  · rw [hg] at HG
    have hsz : v.s.size ≤ 300 := by simp [greatL] at hg; omega
    have H2 := fun W => hid (law_of1 v W)
    cases hv : v.valid
    · have H1 := fun W (h : Below w.heap.size w W) => hid (value_text v W hw.n (by omega) (hE.below h).tab (textL_no hv))
      have H3 := fun W => hid (refV_valid v W hv)
      clear hE hg hv hw
      go_enter Tryd.func12, Tryd.ntmps12
      go_wp2_with fail
      refine (HG.out).mono ?_
      rintro e w1 ⟨rfl, b1⟩
      have k1 := k0.trans (((below_one _ _).trans (b1.mono (by simp))).mono k0.size)
      have hz0 : w1.heap[w.heap.size]? = some (.cells #[.int .i64 v.k, .int .i64 v.n, .string v.s] 41) := res_keep (res_keep (heap_alloc_new w (.cells #[.int .i64 v.k, .int .i64 v.n, .string v.s] 41)) (below_one _ _) (by first | (simp; done) | (simp; omega))) b1 (by first | (simp; done) | (simp; omega))
      have c00 := cell_res hz0 0
      have c01 := cell_res hz0 1
      have c02 := cell_res hz0 2
      clear b1 k0 HG hz0
      go_wp2_with fail
      refine ((H1 _ k1).out).mono ?_
      rintro e w2 ⟨rfl, b2⟩
      have k2 := k1.trans (b2.mono k1.size)
      replace c00 := cell_keep b2 c00
      replace c01 := cell_keep b2 c01
      replace c02 := cell_keep b2 c02
      clear b2 k1
      go_wp2_with fail
      refine ((H2 _).out).mono ?_
      rintro e w3 ⟨rfl, b3⟩
      have k3 := k2.trans (b3.mono k2.size)
      replace c00 := cell_keep b3 c00
      replace c01 := cell_keep b3 c01
      replace c02 := cell_keep b3 c02
      clear b3 k2
      go_wp2_with fail
      refine ((H3 _).out).mono ?_
      rintro e w4 ⟨rfl, b4⟩
      have k4 := k3.trans (b4.mono k3.size)
      replace c00 := cell_keep b4 c00
      replace c01 := cell_keep b4 c01
      replace c02 := cell_keep b4 c02
      clear b4 k3
      go_wp2_with fail
      refine (HA _ k4).out.mono ?_
      rintro e w5 ⟨rfl, b5⟩
      have k5 := k4.trans (b5.mono k4.size)
      clear HA
      go_wp2
      go_ret
      exact ⟨rfl, k5⟩
    · have H1 := fun W (h : Below w.heap.size w W) => hid (value_text v W hw.n (by omega) (hE.below h).tab rfl)
      have H3 := fun W => hid (refV_valid v W hv)
      have hts := textL_size hw hsz
      have H4 := fun W (h : Below w.heap.size w W) => hid (parse_lit ⟨(textL v).toArray⟩ W (by simp [ByteArray.size]; omega) (hE.below h).err (x := (v, 0)) (by rw [arr_list]; exact parse_text hv hw.n))
      have H5 := fun W => hid (ref_text v W hw.n (by omega) hv rfl)
      have EQ := eq_val v v (x := true) (veq_iff.2 rfl)
      have GV := guardVal
      generalize textL v = t at *
      clear hE hg hv hw
      go_enter Tryd.func12, Tryd.ntmps12
      go_wp2_with fail
      refine (HG.out).mono ?_
      rintro e w1 ⟨rfl, b1⟩
      have k1 := k0.trans (((below_one _ _).trans (b1.mono (by simp))).mono k0.size)
      have hz0 : w1.heap[w.heap.size]? = some (.cells #[.int .i64 v.k, .int .i64 v.n, .string v.s] 41) := res_keep (res_keep (heap_alloc_new w (.cells #[.int .i64 v.k, .int .i64 v.n, .string v.s] 41)) (below_one _ _) (by first | (simp; done) | (simp; omega))) b1 (by first | (simp; done) | (simp; omega))
      have c00 := cell_res hz0 0
      have c01 := cell_res hz0 1
      have c02 := cell_res hz0 2
      clear b1 k0 HG hz0
      go_wp2_with fail
      refine ((H1 _ k1).out).mono ?_
      rintro e w2 ⟨rfl, b2⟩
      have k2 := k1.trans (b2.mono k1.size)
      replace c00 := cell_keep b2 c00
      replace c01 := cell_keep b2 c01
      replace c02 := cell_keep b2 c02
      clear b2 k1
      go_wp2_with fail
      refine ((H2 _).out).mono ?_
      rintro e w3 ⟨rfl, b3⟩
      have k3 := k2.trans (b3.mono k2.size)
      replace c00 := cell_keep b3 c00
      replace c01 := cell_keep b3 c01
      replace c02 := cell_keep b3 c02
      clear b3 k2
      go_wp2_with fail
      refine ((H3 _).out).mono ?_
      rintro e w4 ⟨rfl, b4⟩
      have k4 := k3.trans (b4.mono k3.size)
      replace c00 := cell_keep b4 c00
      replace c01 := cell_keep b4 c01
      replace c02 := cell_keep b4 c02
      clear b4 k3
      go_wp2_with fail
      refine ((H4 _ k4).out).mono ?_
      rintro e w5 ⟨rfl, b5⟩
      have k5 := k4.trans (b5.mono k4.size)
      replace c00 := cell_keep b5 c00
      replace c01 := cell_keep b5 c01
      replace c02 := cell_keep b5 c02
      clear b5 k4
      clear H1 H3 H4
      have hlt := cell_lt c00
      go_wp2_with fail
      refine ((H2 _).out).mono ?_
      rintro e w6 ⟨rfl, b6⟩
      have hz6 := res_at b6
      have m0 := cell_res hz6 0
      have m1 := cell_res hz6 1
      have m2 := cell_res hz6 2
      clear hz6
      have d6 := (below_one w5 _).trans (b6.mono (by simp))
      have k6 := k5.trans (d6.mono k5.size)
      replace c00 := cell_keep d6 c00
      replace c01 := cell_keep d6 c01
      replace c02 := cell_keep d6 c02
      clear b6 k5
      clear hlt
      go_wp2_with fail
      refine ((H5 _).out).mono ?_
      rintro e w7 ⟨rfl, b7⟩
      have k7 := k6.trans (b7.mono k6.size)
      replace c00 := cell_keep b7 c00
      replace c01 := cell_keep b7 c01
      replace c02 := cell_keep b7 c02
      replace m0 := cell_keep b7 m0
      replace m1 := cell_keep b7 m1
      replace m2 := cell_keep b7 m2
      clear b7 k6
      go_wp2_with fail
      refine (HA _ k7).out.mono ?_
      rintro e w8 ⟨rfl, b8⟩
      have k8 := k7.trans (b8.mono k7.size)
      clear HA
      go_wp2
      go_ret
      exact ⟨rfl, k8⟩
  · rw [hg] at HG
    clear hE hg
    go_enter Tryd.func12, Tryd.ntmps12
    go_wp2_with fail
    refine (HG.out).mono ?_
    rintro e w1 ⟨rfl, b1⟩
    have k1 := k0.trans (((below_one _ _).trans (b1.mono (by simp))).mono k0.size)
    clear b1 k0 HG
    go_wp2_with fail
    refine (HA _ k1).out.mono ?_
    rintro e w2 ⟨rfl, b2⟩
    have k2 := k1.trans (b2.mono k1.size)
    clear HA
    go_wp2
    go_ret
    exact ⟨rfl, k2⟩
end Go.Proofs.YtkoajdbijlpgaaaDoor
