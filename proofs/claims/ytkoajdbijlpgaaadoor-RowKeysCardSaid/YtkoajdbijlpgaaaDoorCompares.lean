/-
  WALK: ordinallaw02.RowCompares.
-/
import Derived.Test.YtkoajdbijlpgaaaDoorValid
import Derived.Test.YtkoajdbijlpgaaaDoorFew
import Derived.Test.YtkoajdbijlpgaaaDoorProjects
namespace Go.Proofs.YtkoajdbijlpgaaaDoor
open Go.RowKit

theorem rowsAt2 {w : World} {g : Nat} {t : TypeId} {fz : Nat × Nat} {A0 A1 : Option Addr} {c0 c1 : Nat} {a b : List V} (h0 : RowAt w A0 a) (h1 : RowAt w A1 b)
    (h : w.heap[g]? = some (.cells #[.slice A0 a.length c0, .slice A1 b.length c1] t fz)) : RowsAt w (some ⟨g, 0, none⟩) [a, b] := by
  intro _
  refine ⟨g, 0, rfl, fun i hi => ?_⟩
  match i, hi with
  | 0, _ => exact ⟨A0, c0, by rw [cell_of_row w g _ _ t fz h]; rfl, h0⟩
  | 1, _ => exact ⟨A1, c1, by rw [cell_of_row w g _ _ t fz h]; rfl, h1⟩

theorem few2 {a b : List V} (h : fewB [a, b] = true) : a.length ≤ 20 ∧ b.length ≤ 20 ∧ StrOk a ∧ StrOk b := by
  simp [fewB, fewRow] at h
  exact ⟨h.1.1, h.2.1, fun v hv => by have := h.1.2 v hv; omega, fun v hv => by have := h.2.2 v hv; omega⟩

theorem strOk_take {r : List V} (h : StrOk r) (n : Nat) : StrOk (r.take n) := fun v hv => h v (List.mem_of_mem_take hv)

set_option maxRecDepth 100000 in
set_option maxHeartbeats 4000000 in
theorem law_compares (A B D : Option Addr) (c0 c1 cd : Nat) (a b : List V) (d : List Bool) (w : World) (ha : RowAt w A a) (hb : RowAt w B b) (hd : BoolsAt w D d) (hca : a.length ≤ c0) (ht : Tab w) :
    Calls Tryd.prog 5 #[.slice A a.length c0, .slice B b.length c1, .slice D d.length cd] w fun e w' => e = .returned (.bool true) ∧ Below w.heap.size w w' := by
  have k0 := below_one w (.cells #[.slice A a.length c0, .slice B b.length c1] 23)
  have Haw := fun W (h : Below w.heap.size w W) => hid (awake2 W (ht.below h))
  have Hfew := fun (x : Bool) (hx : fewB [a, b] = x) => hid (law_few (some ⟨w.heap.size, 0, none⟩) 2 [a, b] _ (rowsAt2 (ha.below k0) (hb.below k0) (heap1 w _)) (by simp) hx)
  by_cases hmain : fewB [a, b] = true ∧ d.length ≤ 40
  · obtain ⟨hF, h40⟩ := hmain
    obtain ⟨hla, hlb, hsa, hsb⟩ := few2 hF
    have HF := Hfew _ hF
    clear hF Hfew
    have d40 : decide (40 < (d.length : Int)) = false := by simp; omega
    have d40' : decide (40 < d.length) = false := by simp; omega
    have HofA := fun W (h : Below w.heap.size w W) => hid (law_of_new A c0 a W (ha.below h) (by omega))
    have HofB := fun W (h : Below w.heap.size w W) => hid (law_of B c1 b W (hb.below h) (by omega))
    obtain ⟨x, hx⟩ : ∃ x, rowCmp [] a b = x := ⟨_, rfl⟩
    obtain ⟨y, hy⟩ : ∃ y, rowCmp d a b = y := ⟨_, rfl⟩
    obtain ⟨v, hv⟩ : ∃ v, a.all V.valid = v := ⟨_, rfl⟩
    obtain ⟨q, hq⟩ : ∃ q, prefB a b = q := ⟨_, rfl⟩
    have hz : decide (rowCmp [] a b = 0) = (x == 0) := by rw [hx]; rfl
    have Hva := fun W (h : Below w.heap.size w W) => hid (row_valid A c0 a W (ha.below h) (by omega) hv)
    have Hrv := fun (A1 : Option Addr) (n1 : Nat) W (h : RowAt W A1 a) => hid (refRow_valid A1 n1 a W h (by omega) hv)
    have Hcm := fun W (h : Below w.heap.size w W) => hid (row_compare A B c0 c1 a b W hx (ha.below h) (hb.below h) (by omega) (by omega))
    have Hrc := fun (A1 A2 : Option Addr) (n1 n2 : Nat) W (h1 : RowAt W A1 a) (h2 : RowAt W A2 b) => hid (refRow_cmp A1 A2 none n1 n2 0 a b [] W hx h1 h2 BoolsAt.nil (by omega) (by omega) (by simp) hsa hsb)
    have Hcb := fun W (h : Below w.heap.size w W) => hid (compareBy A B D c0 c1 cd a b d W hy (ha.below h) (hb.below h) (hd.below h) (by omega) (by omega) (by omega))
    have Hrd := fun (A1 A2 : Option Addr) (n1 n2 : Nat) W (h : Below w.heap.size w W) (h1 : RowAt W A1 a) (h2 : RowAt W A2 b) => hid (refRow_cmp A1 A2 D n1 n2 cd a b d W hy h1 h2 (hd.below h) (by omega) (by omega) (by omega) hsa hsb)
    have Heq := fun W (h : Below w.heap.size w W) => hid (row_equal A B c0 c1 a b W hz (ha.below h) (hb.below h) (by omega) (by omega))
    have Hpf := fun W (h : Below w.heap.size w W) => hid (row_hasPrefix A B c0 c1 a b W (ha.below h) (hb.below h) (by omega) (by omega) hca hq)
    have hpl : ¬ b.length ≤ a.length → q = false := fun h => by rw [← hq]; simp [prefB, h]
    have Hpc := fun (hle : b.length ≤ a.length) (A1 A2 : Option Addr) (n1 n2 : Nat) W (h1 : RowAt W A1 a) (h2 : RowAt W A2 b) => by
      have hlt : (a.take b.length).length = b.length := by rw [List.length_take]; omega
      have hqq : (rowCmp [] (a.take b.length) b == 0) = q := by rw [← hq]; simp only [prefB, hle, decide_true, Bool.true_and]; rfl
      have := refRow_cmp A1 A2 none n1 n2 0 (a.take b.length) b [] W rfl (h1.cut _) h2 BoolsAt.nil (by omega) (by omega) (by simp) (strOk_take hsa _) hsb
      rw [hlt] at this
      exact hid (And.intro this hqq)
    clear hx hy hv hq hz ha hb hd ht hsa hsb
    by_cases hle : b.length ≤ a.length
    · have g0 : True := trivial
      go_enter Tryd.func5, Tryd.ntmps5
      go_wp2_with fail
      refine (HF.out).mono ?_
      rintro e w1 ⟨rfl, b1⟩
      have k1 := k0.trans (b1.mono k0.size)
      clear b1 k0 HF
      go_wp2_with fail
      refine ((HofA _ k1).out).mono ?_
      rintro e w2 ⟨A2, n2, rfl, x_2, -, hcap, b2⟩
      have k2 := k1.trans (b2.mono k1.size)
      clear b2 k1
      go_wp2_with fail
      refine ((HofB _ k2).out).mono ?_
      rintro e w3 ⟨A3, n3, rfl, y_3, b3⟩
      have k3 := k2.trans (b3.mono k2.size)
      have x_3 := x_2.below b3
      clear b3 k2 x_2
      have hcb : b.length ≤ n2 := by omega
      obtain ⟨Hp, hqq⟩ := (Hpc hle A2 A3 n2 n3 w3 x_3 y_3).out
      have HP := hid Hp
      have HQ := hid hqq
      clear Hp hqq Hpc hpl hca
      generalize rowCmp [] (a.take b.length) b = z at *
      go_wp2_with fail
      refine (HP.out).mono ?_
      rintro e w4 ⟨rfl, b4⟩
      have k4 := k3.trans (b4.mono k3.size)
      have x_4 := x_3.below b4
      have y_4 := y_3.below b4
      clear b4 k3 x_3 y_3
      have hqz := HQ.out
      subst hqz
      clear HP
      go_wp2_with fail
      refine ((Haw _ k4).out).mono ?_
      rintro e w5 ⟨rfl, b5⟩
      have k5 := k4.trans (b5.mono k4.size)
      have x_5 := x_4.below b5
      have y_5 := y_4.below b5
      clear b5 k4 x_4 y_4
      go_wp2_with fail
      refine ((Hva _ k5).out).mono ?_
      rintro e w6 ⟨rfl, b6⟩
      have k6 := k5.trans (b6.mono k5.size)
      have x_6 := x_5.below b6
      have y_6 := y_5.below b6
      clear b6 k5 x_5 y_5
      go_wp2_with fail
      refine ((Hrv A2 n2 _ x_6).out).mono ?_
      rintro e w7 ⟨rfl, b7⟩
      have k7 := k6.trans (b7.mono k6.size)
      have x_7 := x_6.below b7
      have y_7 := y_6.below b7
      clear b7 k6 x_6 y_6
      go_wp2_with fail
      refine ((Hcm _ k7).out).mono ?_
      rintro e w8 ⟨rfl, b8⟩
      have k8 := k7.trans (b8.mono k7.size)
      have x_8 := x_7.below b8
      have y_8 := y_7.below b8
      clear b8 k7 x_7 y_7
      go_wp2_with fail
      refine ((Hrc A2 A3 n2 n3 _ x_8 y_8).out).mono ?_
      rintro e w9 ⟨rfl, b9⟩
      have k9 := k8.trans (b9.mono k8.size)
      have x_9 := x_8.below b9
      have y_9 := y_8.below b9
      clear b9 k8 x_8 y_8
      go_wp2_with fail
      refine ((Hcb _ k9).out).mono ?_
      rintro e w10 ⟨rfl, b10⟩
      have k10 := k9.trans (b10.mono k9.size)
      have x_10 := x_9.below b10
      have y_10 := y_9.below b10
      clear b10 k9 x_9 y_9
      go_wp2_with fail
      refine ((Hrd A2 A3 n2 n3 _ k10 x_10 y_10).out).mono ?_
      rintro e w11 ⟨rfl, b11⟩
      have k11 := k10.trans (b11.mono k10.size)
      have x_11 := x_10.below b11
      have y_11 := y_10.below b11
      clear b11 k10 x_10 y_10
      go_wp2_with fail
      refine ((Heq _ k11).out).mono ?_
      rintro e w12 ⟨rfl, b12⟩
      have k12 := k11.trans (b12.mono k11.size)
      have x_12 := x_11.below b12
      have y_12 := y_11.below b12
      clear b12 k11 x_11 y_11
      go_wp2_with fail
      refine ((Hrc A2 A3 n2 n3 _ x_12 y_12).out).mono ?_
      rintro e w13 ⟨rfl, b13⟩
      have k13 := k12.trans (b13.mono k12.size)
      have x_13 := x_12.below b13
      have y_13 := y_12.below b13
      clear b13 k12 x_12 y_12
      go_wp2_with fail
      refine ((Hpf _ k13).out).mono ?_
      rintro e w14 ⟨rfl, b14⟩
      have k14 := k13.trans (b14.mono k13.size)
      have x_14 := x_13.below b14
      have y_14 := y_13.below b14
      clear b14 k13 x_13 y_13
      go_wp2
      go_ret
      exact ⟨rfl, k14⟩
    · have hqf := hpl hle
      subst hqf
      have g1 : decide (b.length ≤ a.length) = false := by simpa using hle
      have g2 : decide ((b.length : Int) ≤ a.length) = false := by simp; omega
      clear Hpc hpl
      go_enter Tryd.func5, Tryd.ntmps5
      go_wp2_with fail
      refine (HF.out).mono ?_
      rintro e w1 ⟨rfl, b1⟩
      have k1 := k0.trans (b1.mono k0.size)
      clear b1 k0 HF
      go_wp2_with fail
      refine ((HofA _ k1).out).mono ?_
      rintro e w2 ⟨A2, n2, rfl, x_2, -, -, b2⟩
      have k2 := k1.trans (b2.mono k1.size)
      clear b2 k1
      go_wp2_with fail
      refine ((HofB _ k2).out).mono ?_
      rintro e w3 ⟨A3, n3, rfl, y_3, b3⟩
      have k3 := k2.trans (b3.mono k2.size)
      have x_3 := x_2.below b3
      clear b3 k2 x_2
      go_wp2_with fail
      refine ((Haw _ k3).out).mono ?_
      rintro e w4 ⟨rfl, b4⟩
      have k4 := k3.trans (b4.mono k3.size)
      have x_4 := x_3.below b4
      have y_4 := y_3.below b4
      clear b4 k3 x_3 y_3
      go_wp2_with fail
      refine ((Hva _ k4).out).mono ?_
      rintro e w5 ⟨rfl, b5⟩
      have k5 := k4.trans (b5.mono k4.size)
      have x_5 := x_4.below b5
      have y_5 := y_4.below b5
      clear b5 k4 x_4 y_4
      go_wp2_with fail
      refine ((Hrv A2 n2 _ x_5).out).mono ?_
      rintro e w6 ⟨rfl, b6⟩
      have k6 := k5.trans (b6.mono k5.size)
      have x_6 := x_5.below b6
      have y_6 := y_5.below b6
      clear b6 k5 x_5 y_5
      go_wp2_with fail
      refine ((Hcm _ k6).out).mono ?_
      rintro e w7 ⟨rfl, b7⟩
      have k7 := k6.trans (b7.mono k6.size)
      have x_7 := x_6.below b7
      have y_7 := y_6.below b7
      clear b7 k6 x_6 y_6
      go_wp2_with fail
      refine ((Hrc A2 A3 n2 n3 _ x_7 y_7).out).mono ?_
      rintro e w8 ⟨rfl, b8⟩
      have k8 := k7.trans (b8.mono k7.size)
      have x_8 := x_7.below b8
      have y_8 := y_7.below b8
      clear b8 k7 x_7 y_7
      go_wp2_with fail
      refine ((Hcb _ k8).out).mono ?_
      rintro e w9 ⟨rfl, b9⟩
      have k9 := k8.trans (b9.mono k8.size)
      have x_9 := x_8.below b9
      have y_9 := y_8.below b9
      clear b9 k8 x_8 y_8
      go_wp2_with fail
      refine ((Hrd A2 A3 n2 n3 _ k9 x_9 y_9).out).mono ?_
      rintro e w10 ⟨rfl, b10⟩
      have k10 := k9.trans (b10.mono k9.size)
      have x_10 := x_9.below b10
      have y_10 := y_9.below b10
      clear b10 k9 x_9 y_9
      go_wp2_with fail
      refine ((Heq _ k10).out).mono ?_
      rintro e w11 ⟨rfl, b11⟩
      have k11 := k10.trans (b11.mono k10.size)
      have x_11 := x_10.below b11
      have y_11 := y_10.below b11
      clear b11 k10 x_10 y_10
      go_wp2_with fail
      refine ((Hrc A2 A3 n2 n3 _ x_11 y_11).out).mono ?_
      rintro e w12 ⟨rfl, b12⟩
      have k12 := k11.trans (b12.mono k11.size)
      have x_12 := x_11.below b12
      have y_12 := y_11.below b12
      clear b12 k11 x_11 y_11
      go_wp2_with fail
      refine ((Hpf _ k12).out).mono ?_
      rintro e w13 ⟨rfl, b13⟩
      have k13 := k12.trans (b13.mono k12.size)
      have x_13 := x_12.below b13
      have y_13 := y_12.below b13
      clear b13 k12 x_12 y_12
      go_wp2
      go_ret
      exact ⟨rfl, k13⟩
  · have hne : ¬ (fewB [a, b] = true ∧ d.length ≤ 40) := hmain
    clear hmain
    cases hF : fewB [a, b]
    · have HF := Hfew _ hF
      clear hF Hfew hne ha hb hd ht
      go_enter Tryd.func5, Tryd.ntmps5
      go_wp2_with fail
      refine (HF.out).mono ?_
      rintro e w1 ⟨rfl, b1⟩
      have k1 := k0.trans (b1.mono k0.size)
      clear b1 k0 HF
      go_wp2_with fail
      refine ((Haw _ k1).out).mono ?_
      rintro e w2 ⟨rfl, b2⟩
      have k2 := k1.trans (b2.mono k1.size)
      clear b2 k1
      go_wp2
      go_ret
      exact ⟨rfl, k2⟩
    · have h40 : 40 < d.length := by
        rcases Nat.lt_or_ge 40 d.length with h | h
        · exact h
        · exact absurd ⟨hF, h⟩ hne
      have HF := Hfew _ hF
      clear hF Hfew hne ha hb hd ht
      go_enter Tryd.func5, Tryd.ntmps5
      go_wp2_with fail
      refine (HF.out).mono ?_
      rintro e w1 ⟨rfl, b1⟩
      have k1 := k0.trans (b1.mono k0.size)
      clear b1 k0 HF
      go_wp2_with fail
      refine ((Haw _ k1).out).mono ?_
      rintro e w2 ⟨rfl, b2⟩
      have k2 := k1.trans (b2.mono k1.size)
      clear b2 k1
      go_wp2
      go_ret
      exact ⟨rfl, k2⟩
end Go.Proofs.YtkoajdbijlpgaaaDoor
