/-
  WALK: ordinallaw01.ValueDiffers.
-/
import Derived.Test.YtkoajdbijlpgaaaDoorRtP
import Derived.Test.YtkoajdbijlpgaaaDoorAwake1
import Derived.Test.YtkoajdbijlpgaaaDoorKit3
import Derived.Test.YtkoajdbijlpgaaaDoorVeq
import Derived.Test.YtkoajdbijlpgaaaDoorOpen
namespace Go.Proofs.YtkoajdbijlpgaaaDoor
open Go.RowKit

theorem text_as {w : World} {v : V} {S : ByteArray} (hS : S = ⟨(textL v).toArray⟩) (h : Calls Tryd.prog 47 #[.agg #[.int .i64 v.k, .int .i64 v.n, .string v.s]] w fun e w' => e = .returned (.string ⟨(textL v).toArray⟩) ∧ Below w.heap.size w w') :
    Calls Tryd.prog 47 #[.agg #[.int .i64 v.k, .int .i64 v.n, .string v.s]] w fun e w' => e = .returned (.string S) ∧ Below w.heap.size w w' := by
  rw [hS]; exact h
theorem text_size {v : V} (h : v.wf) (hs : v.s.size ≤ 300) : (textL v).length ≤ 2000 := by
  unfold textL
  split
  · split
    · have := Lib.itoa_length_le v.n h.n.1 h.n.2; omega
    · have := quoteL_le v.s.data.toList
      have hs : v.s.data.toList.length ≤ 300 := by simpa using hs
      omega
  · simp
theorem text_eq {a b : V} (ha : a.wf) (hb : b.wf) (va : a.valid = true) (vb : b.valid = true) {S T : ByteArray} (hS : S = ⟨(textL a).toArray⟩) (hT : T = ⟨(textL b).toArray⟩) : (S.toList == T.toList) = veq a b := by
  rw [hS, hT, Lib.toList_data, Lib.toList_data]
  have e1 : (⟨(textL a).toArray⟩ : ByteArray).data.toList = textL a := by simp
  have e2 : (⟨(textL b).toArray⟩ : ByteArray).data.toList = textL b := by simp
  rw [e1, e2]
  by_cases h : a = b
  · rw [h, veq_iff.2 rfl]; simp
  · rw [veq_false h]
    simp only [beq_eq_false_iff_ne, ne_eq]
    exact fun e => h (textL_inj va vb ha.n hb.n e)
theorem text_print {v : V} {S : ByteArray} (hS : S = ⟨(textL v).toArray⟩) (k : Nat) (hk : k < S.size) : 32 ≤ S[k].toNat ∧ S[k].toNat ≤ 126 := by
  subst hS
  exact textL_print v _ (by have : k < (textL v).length := by simpa [ByteArray.size] using hk
                            exact List.getElem_mem this)

set_option maxRecDepth 100000 in
set_option maxHeartbeats 2000000 in
theorem law_vdiffers (a b : V) (ha : a.wf) (hb : b.wf) (w : World) (hE : Env w) :
    Calls Tryd.prog 14 #[.agg #[.int .i64 a.k, .int .i64 a.n, .string a.s], .agg #[.int .i64 b.k, .int .i64 b.n, .string b.s]] w fun e w' => e = .returned (.bool true) ∧ Below w.heap.size w w' := by
  have k0 : Below w.heap.size w ((w.alloc (.cells #[.int .i64 a.k, .int .i64 a.n, .string a.s] 41)).alloc (.cells #[.int .i64 b.k, .int .i64 b.n, .string b.s] 41)) := below_two w _ _
  have HG := hid (law_great (some ⟨w.heap.size + 1 + 1, 0, none⟩) 2 [a.s, b.s] _ (strsAt_new ((w.alloc (.cells #[.int .i64 a.k, .int .i64 a.n, .string a.s] 41)).alloc (.cells #[.int .i64 b.k, .int .i64 b.n, .string b.s] 41)) _ (by simp) [a.s, b.s] 9) (by simp) (x := greatL [a.s, b.s]) rfl)
  have HA := fun W (h : Below w.heap.size w W) => hid (awake1 W (hE.below h))
  cases hg : greatL [a.s, b.s]
  · rw [hg] at HG
    have hsz : a.s.size ≤ 300 ∧ b.s.size ≤ 300 := by simp [greatL] at hg; omega
    cases va : a.valid
    · have H1 := fun W => hid (value_valid a W va)
      clear hE hg va ha hb hsz
      go_enter Tryd.func14, Tryd.ntmps14
      go_wp2_with fail
      refine (HG.out).mono ?_
      rintro e w1 ⟨rfl, b1⟩
      have k1 := k0.trans (((below_one _ _).trans (b1.mono (by simp))).mono k0.size)
      have hz0 : w1.heap[w.heap.size]? = some (.cells #[.int .i64 a.k, .int .i64 a.n, .string a.s] 41) := res_keep (res_keep (res_keep (heap_alloc_new w (.cells #[.int .i64 a.k, .int .i64 a.n, .string a.s] 41)) (below_one _ _) (by first | (simp; done) | (simp; omega))) (below_one _ _) (by first | (simp; done) | (simp; omega))) b1 (by first | (simp; done) | (simp; omega))
      have c00 := cell_res hz0 0
      have c01 := cell_res hz0 1
      have c02 := cell_res hz0 2
      have hz1 : w1.heap[w.heap.size + 1]? = some (.cells #[.int .i64 b.k, .int .i64 b.n, .string b.s] 41) := res_keep (res_keep (by simpa using heap_alloc_new (w.alloc (.cells #[.int .i64 a.k, .int .i64 a.n, .string a.s] 41)) (.cells #[.int .i64 b.k, .int .i64 b.n, .string b.s] 41)) (below_one _ _) (by first | (simp; done) | (simp; omega))) b1 (by first | (simp; done) | (simp; omega))
      have c10 := cell_res hz1 0
      have c11 := cell_res hz1 1
      have c12 := cell_res hz1 2
      clear b1 k0 HG hz0 hz1
      go_wp2_with fail
      refine ((H1 _).out).mono ?_
      rintro e w2 ⟨rfl, b2⟩
      have k2 := k1.trans (b2.mono k1.size)
      replace c00 := cell_keep b2 c00
      replace c01 := cell_keep b2 c01
      replace c02 := cell_keep b2 c02
      replace c10 := cell_keep b2 c10
      replace c11 := cell_keep b2 c11
      replace c12 := cell_keep b2 c12
      clear b2 k1
      clear H1
      go_wp2_with fail
      refine (HA _ k2).out.mono ?_
      rintro e w3 ⟨rfl, b3⟩
      have k3 := k2.trans (b3.mono k2.size)
      clear HA
      go_wp2
      go_ret
      exact ⟨rfl, k3⟩
    · have H1 := fun W => hid (value_valid a W va)
      cases vb : b.valid
      · have H2 := fun W => hid (value_valid b W vb)
        clear hE hg va vb ha hb hsz
        go_enter Tryd.func14, Tryd.ntmps14
        go_wp2_with fail
        refine (HG.out).mono ?_
        rintro e w1 ⟨rfl, b1⟩
        have k1 := k0.trans (((below_one _ _).trans (b1.mono (by simp))).mono k0.size)
        have hz0 : w1.heap[w.heap.size]? = some (.cells #[.int .i64 a.k, .int .i64 a.n, .string a.s] 41) := res_keep (res_keep (res_keep (heap_alloc_new w (.cells #[.int .i64 a.k, .int .i64 a.n, .string a.s] 41)) (below_one _ _) (by first | (simp; done) | (simp; omega))) (below_one _ _) (by first | (simp; done) | (simp; omega))) b1 (by first | (simp; done) | (simp; omega))
        have c00 := cell_res hz0 0
        have c01 := cell_res hz0 1
        have c02 := cell_res hz0 2
        have hz1 : w1.heap[w.heap.size + 1]? = some (.cells #[.int .i64 b.k, .int .i64 b.n, .string b.s] 41) := res_keep (res_keep (by simpa using heap_alloc_new (w.alloc (.cells #[.int .i64 a.k, .int .i64 a.n, .string a.s] 41)) (.cells #[.int .i64 b.k, .int .i64 b.n, .string b.s] 41)) (below_one _ _) (by first | (simp; done) | (simp; omega))) b1 (by first | (simp; done) | (simp; omega))
        have c10 := cell_res hz1 0
        have c11 := cell_res hz1 1
        have c12 := cell_res hz1 2
        clear b1 k0 HG hz0 hz1
        go_wp2_with fail
        refine ((H1 _).out).mono ?_
        rintro e w2 ⟨rfl, b2⟩
        have k2 := k1.trans (b2.mono k1.size)
        replace c00 := cell_keep b2 c00
        replace c01 := cell_keep b2 c01
        replace c02 := cell_keep b2 c02
        replace c10 := cell_keep b2 c10
        replace c11 := cell_keep b2 c11
        replace c12 := cell_keep b2 c12
        clear b2 k1
        go_wp2_with fail
        refine ((H2 _).out).mono ?_
        rintro e w3 ⟨rfl, b3⟩
        have k3 := k2.trans (b3.mono k2.size)
        replace c00 := cell_keep b3 c00
        replace c01 := cell_keep b3 c01
        replace c02 := cell_keep b3 c02
        replace c10 := cell_keep b3 c10
        replace c11 := cell_keep b3 c11
        replace c12 := cell_keep b3 c12
        clear b3 k2
        clear H1 H2
        go_wp2_with fail
        refine (HA _ k3).out.mono ?_
        rintro e w4 ⟨rfl, b4⟩
        have k4 := k3.trans (b4.mono k3.size)
        clear HA
        go_wp2
        go_ret
        exact ⟨rfl, k4⟩
      · have H2 := fun W => hid (value_valid b W vb)
        obtain ⟨S, hS⟩ : ∃ S : ByteArray, S = ⟨(textL a).toArray⟩ := ⟨_, rfl⟩
        obtain ⟨T, hT⟩ : ∃ T : ByteArray, T = ⟨(textL b).toArray⟩ := ⟨_, rfl⟩
        have H3 := fun W (h : Below w.heap.size w W) => hid (text_as hS (value_text a W ha.n (by omega) (hE.below h).tab rfl))
        have H4 := fun W (h : Below w.heap.size w W) => hid (text_as hT (value_text b W hb.n (by omega) (hE.below h).tab rfl))
        have hst := text_eq ha hb va vb hS hT
        have HP := hid (text_print hS)
        have hSs : S.size ≤ 2000 := by rw [hS]; simpa [ByteArray.size] using text_size ha hsz.1
        obtain ⟨y, hy⟩ : ∃ y, veq a b = y := ⟨_, rfl⟩
        have EQ := eq_val a b hy
        have GV := guardVal
        rw [hy] at hst
        clear hE hg va vb ha hb hsz hS hT hy
        go_enter Tryd.func14, Tryd.ntmps14
        go_wp2_with fail
        refine (HG.out).mono ?_
        rintro e w1 ⟨rfl, b1⟩
        have k1 := k0.trans (((below_one _ _).trans (b1.mono (by simp))).mono k0.size)
        have hz0 : w1.heap[w.heap.size]? = some (.cells #[.int .i64 a.k, .int .i64 a.n, .string a.s] 41) := res_keep (res_keep (res_keep (heap_alloc_new w (.cells #[.int .i64 a.k, .int .i64 a.n, .string a.s] 41)) (below_one _ _) (by first | (simp; done) | (simp; omega))) (below_one _ _) (by first | (simp; done) | (simp; omega))) b1 (by first | (simp; done) | (simp; omega))
        have c00 := cell_res hz0 0
        have c01 := cell_res hz0 1
        have c02 := cell_res hz0 2
        have hz1 : w1.heap[w.heap.size + 1]? = some (.cells #[.int .i64 b.k, .int .i64 b.n, .string b.s] 41) := res_keep (res_keep (by simpa using heap_alloc_new (w.alloc (.cells #[.int .i64 a.k, .int .i64 a.n, .string a.s] 41)) (.cells #[.int .i64 b.k, .int .i64 b.n, .string b.s] 41)) (below_one _ _) (by first | (simp; done) | (simp; omega))) b1 (by first | (simp; done) | (simp; omega))
        have c10 := cell_res hz1 0
        have c11 := cell_res hz1 1
        have c12 := cell_res hz1 2
        clear b1 k0 HG hz0 hz1
        go_wp2_with fail
        refine ((H1 _).out).mono ?_
        rintro e w2 ⟨rfl, b2⟩
        have k2 := k1.trans (b2.mono k1.size)
        replace c00 := cell_keep b2 c00
        replace c01 := cell_keep b2 c01
        replace c02 := cell_keep b2 c02
        replace c10 := cell_keep b2 c10
        replace c11 := cell_keep b2 c11
        replace c12 := cell_keep b2 c12
        clear b2 k1
        go_wp2_with fail
        refine ((H2 _).out).mono ?_
        rintro e w3 ⟨rfl, b3⟩
        have k3 := k2.trans (b3.mono k2.size)
        replace c00 := cell_keep b3 c00
        replace c01 := cell_keep b3 c01
        replace c02 := cell_keep b3 c02
        replace c10 := cell_keep b3 c10
        replace c11 := cell_keep b3 c11
        replace c12 := cell_keep b3 c12
        clear b3 k2
        go_wp2_with fail
        refine ((H3 _ k3).out).mono ?_
        rintro e w4 ⟨rfl, b4⟩
        have k4 := k3.trans (b4.mono k3.size)
        replace c00 := cell_keep b4 c00
        replace c01 := cell_keep b4 c01
        replace c02 := cell_keep b4 c02
        replace c10 := cell_keep b4 c10
        replace c11 := cell_keep b4 c11
        replace c12 := cell_keep b4 c12
        clear b4 k3
        clear H1 H2 H3
        go_wp2
        go_loop [28] (fun i => ∃ k : Nat, k ≤ S.size ∧ i = .int .i64 k) (fun i => S.size - (intOf i).toNat)
        case atStart => exact ⟨0, by omega, rfl⟩
        case round =>
          obtain ⟨k, hk, rfl⟩ := hrel
          by_cases hlt : k < S.size
          · obtain ⟨g1, g2⟩ := HP.out k hlt
            clear HP HA H4 EQ GV hst c00 c01 c02 c10 c11 c12
            go_wp2
            go_round
            case rel => exact ⟨k + 1, by omega, by go_num⟩
            case measure => simp [intOf]; omega
          · clear HP
            have H5 := fun p : BelowBy w4 => hid (H4 p.to (k4.trans (p.le.mono k4.size))).out
            clear H4
            replace c00 := fun p : BelowBy w4 => by_cell c00 p
            replace c01 := fun p : BelowBy w4 => by_cell c01 p
            replace c02 := fun p : BelowBy w4 => by_cell c02 p
            replace c10 := fun p : BelowBy w4 => by_cell c10 p
            replace c11 := fun p : BelowBy w4 => by_cell c11 p
            replace c12 := fun p : BelowBy w4 => by_cell c12 p
            have HA2 := fun p : BelowBy w4 => hid (HA p.to (k4.trans (p.le.mono k4.size))).out
            clear HA
            go_wp2_with fail
            refine wp_region_below (by kernel_rfl) (by kernel_rfl) ?_
            repeat (go_big_quiet_step (first | with_reducible exact calls_by (H5 _).out | with_reducible exact calls_by (HA2 _).out))
            refine wpQuiet_nil ?_
            rintro _ ⟨⟨wq, kq⟩, rfl⟩
            go_wp2
            go_ret
            exact ⟨rfl, k4.trans (kq.mono k4.size)⟩
  · rw [hg] at HG
    clear hE hg
    go_enter Tryd.func14, Tryd.ntmps14
    go_wp2_with fail
    refine (HG.out).mono ?_
    rintro e w1 ⟨rfl, b1⟩
    have k1 := k0.trans (((below_one _ _).trans (b1.mono (by simp))).mono k0.size)
    clear b1 k0 HG
    go_wp2_with fail
    refine (HA _ k1).out.mono ?_
    rintro e w2 ⟨rfl, b2⟩
    have k2 := k1.trans (b2.mono k1.size)
    clear HA
    go_wp2
    go_ret
    exact ⟨rfl, k2⟩
end Go.Proofs.YtkoajdbijlpgaaaDoor
