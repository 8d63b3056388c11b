/-
  WALK: ordinallaw02.RowKeys.
-/
import Derived.Test.YtkoajdbijlpgaaaDoorValid
import Derived.Test.YtkoajdbijlpgaaaDoorCompares
import Derived.Test.YtkoajdbijlpgaaaDoorKey
import Derived.Test.YtkoajdbijlpgaaaDoorOrd
import Derived.Test.YtkoajdbijlpgaaaDoorOpen
namespace Go.Proofs.YtkoajdbijlpgaaaDoor
open Go.RowKit

theorem few2ok {a b : List V} (h : fewB [a, b] = true) (ha : ∀ v ∈ a, v.wf) (hb : ∀ v ∈ b, v.wf) : (∀ v ∈ a, v.ok) ∧ ∀ v ∈ b, v.ok := by
  simp [fewB, fewRow] at h
  exact ⟨fun v hv => ⟨(ha v hv).k, (ha v hv).n, by have := h.1.2 v hv; omega⟩, fun v hv => ⟨(hb v hv).k, (hb v hv).n, by have := h.2.2 v hv; omega⟩⟩

theorem str_ne {x y : List UInt8} (h : x ≠ y) : ((⟨x.toArray⟩ : ByteArray).toList == (⟨y.toArray⟩ : ByteArray).toList) = false := by
  rw [Lib.toList_data, Lib.toList_data]; simpa using h

set_option maxRecDepth 100000 in
set_option maxHeartbeats 4000000 in
theorem law_keys (A B : Option Addr) (c0 c1 : Nat) (a b : List V) (w : World) (ha : RowAt w A a) (hb : RowAt w B b) (hwa : ∀ v ∈ a, v.wf) (hwb : ∀ v ∈ b, v.wf) (ht : Tab w) :
    Calls Tryd.prog 6 #[.slice A a.length c0, .slice B b.length c1] w fun e w' => e = .returned (.bool true) ∧ Below w.heap.size w w' := by
  have k0 := below_one w (.cells #[.slice A a.length c0, .slice B b.length c1] 23)
  have Haw := fun W (h : Below w.heap.size w W) => hid (awake2 W (ht.below h))
  cases hF : fewB [a, b]
  · have HF := hid (law_few (some ⟨w.heap.size, 0, none⟩) 2 [a, b] _ (rowsAt2 (ha.below k0) (hb.below k0) (heap1 w _)) (by simp) hF)
    clear hF ha hb ht hwa hwb
    go_enter Tryd.func6, Tryd.ntmps6
    go_wp2_with fail
    refine (HF.out).mono ?_
    rintro e w1 ⟨rfl, b1⟩
    have k1 := k0.trans (b1.mono k0.size)
    clear b1 k0 HF
    go_wp2_with fail
    refine ((Haw _ k1).out).mono ?_
    rintro e w2 ⟨rfl, b2⟩
    have k2 := k1.trans (b2.mono k1.size)
    clear b2 k1
    go_wp2
    go_ret
    exact ⟨rfl, k2⟩
  · obtain ⟨hla, hlb, hsa, hsb⟩ := few2 hF
    obtain ⟨hoa, hob⟩ := few2ok hF hwa hwb
    have HF := hid (law_few (some ⟨w.heap.size, 0, none⟩) 2 [a, b] _ (rowsAt2 (ha.below k0) (hb.below k0) (heap1 w _)) (by simp) hF)
    have HofA := fun W (h : Below w.heap.size w W) => hid (law_of A c0 a W (ha.below h) (by omega))
    have HofB := fun W (h : Below w.heap.size w W) => hid (law_of B c1 b W (hb.below h) (by omega))
    have Hrv := fun (r : List V) (hr : r.length ≤ 20) (A1 : Option Addr) (n1 : Nat) W (h : RowAt W A1 r) (y : Bool) (hy : r.all V.valid = y) => hid (refRow_valid A1 n1 r W h (by omega) hy)
    have HkA := fun W (h : Below w.heap.size w W) => hid (row_key A c0 a W (ha.below h) (by omega) hoa (ht.below h))
    have HkB := fun W (h : Below w.heap.size w W) => hid (row_key B c1 b W (hb.below h) (by omega) hob (ht.below h))
    have Hrc := fun (A1 A2 : Option Addr) (n1 n2 : Nat) W (x : Int) (hx : rowCmp [] a b = x) (h1 : RowAt W A1 a) (h2 : RowAt W A2 b) => hid (refRow_cmp A1 A2 none n1 n2 0 a b [] W hx h1 h2 BoolsAt.nil (by omega) (by omega) (by simp) hsa hsb)
    clear hF ha hb ht hwa hwb hsa hsb hoa hob
    cases hva : a.all V.valid
    · have HVA := hid hva
      clear hva Hrc HkA HkB HofB
      go_enter Tryd.func6, Tryd.ntmps6
      go_wp2_with fail
      refine (HF.out).mono ?_
      rintro e w1 ⟨rfl, b1⟩
      have k1 := k0.trans (b1.mono k0.size)
      clear b1 k0 HF
      go_wp2_with fail
      refine ((HofA _ k1).out).mono ?_
      rintro e w2 ⟨A2, n2, rfl, x_2, b2⟩
      have k2 := k1.trans (b2.mono k1.size)
      clear b2 k1
      go_wp2_with fail
      refine ((Hrv a (by omega) A2 n2 _ x_2 _ HVA.out).out).mono ?_
      rintro e w3 ⟨rfl, b3⟩
      have k3 := k2.trans (b3.mono k2.size)
      clear b3 k2 x_2
      go_wp2_with fail
      refine ((Haw _ k3).out).mono ?_
      rintro e w4 ⟨rfl, b4⟩
      have k4 := k3.trans (b4.mono k3.size)
      clear b4 k3
      go_wp2
      go_ret
      exact ⟨rfl, k4⟩
    · have HVA := hid hva
      clear hva
      cases hvb : b.all V.valid
      · have HVB := hid hvb
        clear hvb Hrc HkA HkB
        go_enter Tryd.func6, Tryd.ntmps6
        go_wp2_with fail
        refine (HF.out).mono ?_
        rintro e w1 ⟨rfl, b1⟩
        have k1 := k0.trans (b1.mono k0.size)
        clear b1 k0 HF
        go_wp2_with fail
        refine ((HofA _ k1).out).mono ?_
        rintro e w2 ⟨A2, n2, rfl, x_2, b2⟩
        have k2 := k1.trans (b2.mono k1.size)
        clear b2 k1
        go_wp2_with fail
        refine ((Hrv a (by omega) A2 n2 _ x_2 _ HVA.out).out).mono ?_
        rintro e w3 ⟨rfl, b3⟩
        have k3 := k2.trans (b3.mono k2.size)
        clear b3 k2 x_2
        go_wp2_with fail
        refine ((HofB _ k3).out).mono ?_
        rintro e w4 ⟨A3, n3, rfl, y_4, b4⟩
        have k4 := k3.trans (b4.mono k3.size)
        clear b4 k3
        go_wp2_with fail
        refine ((Hrv b (by omega) A3 n3 _ y_4 _ HVB.out).out).mono ?_
        rintro e w5 ⟨rfl, b5⟩
        have k5 := k4.trans (b5.mono k4.size)
        clear b5 k4 y_4
        go_wp2_with fail
        refine ((Haw _ k5).out).mono ?_
        rintro e w6 ⟨rfl, b6⟩
        have k6 := k5.trans (b6.mono k5.size)
        clear b6 k5
        go_wp2
        go_ret
        exact ⟨rfl, k6⟩
      · have HVB := hid hvb
        clear hvb
        by_cases hab : a = b
        · have hz : rowCmp [] a b = 0 := rowCmp_zero.2 hab
          have HZ := hid hz
          have hke : keyL b = keyL a := by rw [hab]
          rw [hke] at HkB
          generalize keyL a = ka at *
          clear hz hke hab
          go_enter Tryd.func6, Tryd.ntmps6
          go_wp2_with fail
          refine (HF.out).mono ?_
          rintro e w1 ⟨rfl, b1⟩
          have k1 := k0.trans (b1.mono k0.size)
          clear b1 k0 HF
          go_wp2_with fail
          refine ((HofA _ k1).out).mono ?_
          rintro e w2 ⟨A2, n2, rfl, x_2, b2⟩
          have k2 := k1.trans (b2.mono k1.size)
          clear b2 k1
          go_wp2_with fail
          refine ((Hrv a (by omega) A2 n2 _ x_2 _ HVA.out).out).mono ?_
          rintro e w3 ⟨rfl, b3⟩
          have k3 := k2.trans (b3.mono k2.size)
          clear b3 k2 x_2
          go_wp2_with fail
          refine ((HofB _ k3).out).mono ?_
          rintro e w4 ⟨A3, n3, rfl, y_4, b4⟩
          have k4 := k3.trans (b4.mono k3.size)
          clear b4 k3
          go_wp2_with fail
          refine ((Hrv b (by omega) A3 n3 _ y_4 _ HVB.out).out).mono ?_
          rintro e w5 ⟨rfl, b5⟩
          have k5 := k4.trans (b5.mono k4.size)
          clear b5 k4 y_4
          go_wp2_with fail
          refine ((Haw _ k5).out).mono ?_
          rintro e w6 ⟨rfl, b6⟩
          have k6 := k5.trans (b6.mono k5.size)
          clear b6 k5
          go_wp2_with fail
          refine ((HkA _ k6).out).mono ?_
          rintro e w7 ⟨rfl, b7⟩
          have k7 := k6.trans (b7.mono k6.size)
          clear b7 k6
          go_wp2_with fail
          refine ((HkB _ k7).out).mono ?_
          rintro e w8 ⟨rfl, b8⟩
          have k8 := k7.trans (b8.mono k7.size)
          clear b8 k7
          go_wp2_with fail
          refine ((HofA _ k8).out).mono ?_
          rintro e w9 ⟨A4, n4, rfl, x_9, b9⟩
          have k9 := k8.trans (b9.mono k8.size)
          clear b9 k8
          go_wp2_with fail
          refine ((HofB _ k9).out).mono ?_
          rintro e w10 ⟨A5, n5, rfl, y_10, b10⟩
          have k10 := k9.trans (b10.mono k9.size)
          have x_10 := x_9.below b10
          clear b10 k9 x_9
          go_wp2_with fail
          refine ((Hrc A4 A5 n4 n5 _ _ HZ.out x_10 y_10).out).mono ?_
          rintro e w11 ⟨rfl, b11⟩
          have k11 := k10.trans (b11.mono k10.size)
          clear b11 k10 x_10 y_10
          go_wp2
          go_ret
          exact ⟨rfl, k11⟩
        · obtain ⟨x, hx⟩ : ∃ x, rowCmp [] a b = x := ⟨_, rfl⟩
          have hx0 : (x == 0) = false := by simp; intro e; subst e; exact hab (rowCmp_zero.1 hx)
          have HZ := hid hx
          have hke : (keyL a == keyL b) = false := by simpa using (fun e => hab (keyL_inj e))
          generalize keyL a = ka at *
          generalize keyL b = kb at *
          clear hx hab
          go_enter Tryd.func6, Tryd.ntmps6
          go_wp2_with fail
          refine (HF.out).mono ?_
          rintro e w1 ⟨rfl, b1⟩
          have k1 := k0.trans (b1.mono k0.size)
          clear b1 k0 HF
          go_wp2_with fail
          refine ((HofA _ k1).out).mono ?_
          rintro e w2 ⟨A2, n2, rfl, x_2, b2⟩
          have k2 := k1.trans (b2.mono k1.size)
          clear b2 k1
          go_wp2_with fail
          refine ((Hrv a (by omega) A2 n2 _ x_2 _ HVA.out).out).mono ?_
          rintro e w3 ⟨rfl, b3⟩
          have k3 := k2.trans (b3.mono k2.size)
          clear b3 k2 x_2
          go_wp2_with fail
          refine ((HofB _ k3).out).mono ?_
          rintro e w4 ⟨A3, n3, rfl, y_4, b4⟩
          have k4 := k3.trans (b4.mono k3.size)
          clear b4 k3
          go_wp2_with fail
          refine ((Hrv b (by omega) A3 n3 _ y_4 _ HVB.out).out).mono ?_
          rintro e w5 ⟨rfl, b5⟩
          have k5 := k4.trans (b5.mono k4.size)
          clear b5 k4 y_4
          go_wp2_with fail
          refine ((Haw _ k5).out).mono ?_
          rintro e w6 ⟨rfl, b6⟩
          have k6 := k5.trans (b6.mono k5.size)
          clear b6 k5
          go_wp2_with fail
          refine ((HkA _ k6).out).mono ?_
          rintro e w7 ⟨rfl, b7⟩
          have k7 := k6.trans (b7.mono k6.size)
          clear b7 k6
          go_wp2_with fail
          refine ((HkB _ k7).out).mono ?_
          rintro e w8 ⟨rfl, b8⟩
          have k8 := k7.trans (b8.mono k7.size)
          clear b8 k7
          go_wp2_with fail
          refine ((HofA _ k8).out).mono ?_
          rintro e w9 ⟨A4, n4, rfl, x_9, b9⟩
          have k9 := k8.trans (b9.mono k8.size)
          clear b9 k8
          go_wp2_with fail
          refine ((HofB _ k9).out).mono ?_
          rintro e w10 ⟨A5, n5, rfl, y_10, b10⟩
          have k10 := k9.trans (b10.mono k9.size)
          have x_10 := x_9.below b10
          clear b10 k9 x_9
          go_wp2_with fail
          refine ((Hrc A4 A5 n4 n5 _ _ HZ.out x_10 y_10).out).mono ?_
          rintro e w11 ⟨rfl, b11⟩
          have k11 := k10.trans (b11.mono k10.size)
          clear b11 k10 x_10 y_10
          go_wp2
          go_ret
          exact ⟨rfl, k11⟩
end Go.Proofs.YtkoajdbijlpgaaaDoor
