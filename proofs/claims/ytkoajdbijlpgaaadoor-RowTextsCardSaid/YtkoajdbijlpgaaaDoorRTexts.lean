/-
  WALK: ordinallaw02.RowTexts.
-/
import Derived.Test.YtkoajdbijlpgaaaDoorRw6
import Derived.Test.YtkoajdbijlpgaaaDoorProjects
import Derived.Test.YtkoajdbijlpgaaaDoorValid
import Derived.Test.YtkoajdbijlpgaaaDoorAwake2
import Derived.Test.YtkoajdbijlpgaaaDoorOpen
namespace Go.Proofs.YtkoajdbijlpgaaaDoor
open Go.RowKit

theorem valid_ok {r : List V} (hw : ∀ v ∈ r, v.wf) (hv : r.all V.valid = true) : ∀ v ∈ r, v.valid = true ∧ I64 v.n := fun v h => ⟨List.all_eq_true.1 hv v h, (hw v h).n⟩
theorem text_ok {r : List V} (h : ∀ v ∈ r, v.valid = true ∧ I64 v.n) : (∀ v ∈ r, v.ok) ∧ (∀ v ∈ r, v.valid = true) ∧ StrOk r ∧ (rowTextL r).length ≤ 102 * r.length + 2 := by
  refine ⟨fun v hv => (ok_of (h v hv).1 (h v hv).2).1, fun v hv => (h v hv).1, fun v hv => by have := (ok_of (h v hv).1 (h v hv).2).2.1; omega, ?_⟩
  have := rowBody_len r fun v hv => (ok_of (h v hv).1 (h v hv).2).2.2
  unfold rowTextL
  simp only [List.length_cons, List.length_append, List.length_nil]; omega
theorem arr_backS (s : ByteArray) : (⟨s.data.toList.toArray⟩ : ByteArray) = s := ByteArray.ext (by simp)
theorem row_textB (A : Option Addr) (c : Nat) (r : List V) (w : World) (hr : RowAt w A r) (hl : r.length ≤ 100000) (hok : ∀ v ∈ r, v.ok) (ht : Tab w) {T : ByteArray} (hT : T = ⟨(rowTextL r).toArray⟩) :
    Calls Tryd.prog 53 #[.slice A r.length c] w fun e w' => e = .returned (.string T) ∧ Below w.heap.size w w' := by
  subst hT
  exact row_text A c r w hr hl hok ht
theorem refRow_textB (A : Option Addr) (c : Nat) (r : List V) (w : World) (hr : RowAt w A r) (hl : r.length ≤ 100000) (hok : ∀ v ∈ r, v.ok) (hv : ∀ v ∈ r, v.valid = true) {T : ByteArray} (hT : T = ⟨(rowTextL r).toArray⟩) :
    Calls Tryd.prog 55 #[.slice A r.length c] w fun e w' => e = .returned (.string T) ∧ Below w.heap.size w w' := by
  subst hT
  exact refRow_text A c r w hr hl hok hv

set_option maxRecDepth 100000 in
set_option maxHeartbeats 2000000 in
theorem rt_big (A : Option Addr) (c : Nat) (r : List V) (s : ByteArray) (w : World) (hr : RowAt w A r) (hE : Env w) {x : Bool} (hx : fewB [r] = x) (hor : x = false ∨ 400 < s.size) :
    Calls Tryd.prog 16 #[.slice A r.length c, .string s] w fun e w' => e = .returned (.bool true) ∧ Below w.heap.size w w' := by
  have k0 := below_one w (.cells #[.slice A r.length c] 23)
  have Haw := fun W (h : Below w.heap.size w W) => hid (awake2 W (hE.below h).tab)
  have HF := hid (law_few (some ⟨w.heap.size, 0, none⟩) 1 [r] _ (rowsAt1 (hr.below k0) (heap1 w _)) (by simp) hx)
  clear hx hr hE
  cases x
  · clear hor
    go_enter Tryd.func16, Tryd.ntmps16
    go_wp2_with fail
    refine (HF.out).mono ?_
    rintro e w1 ⟨rfl, b1⟩
    have k1 := k0.trans (b1.mono k0.size)
    clear b1 k0 HF
    go_wp2_with fail
    refine ((Haw _ k1).out).mono ?_
    rintro e w2 ⟨rfl, b2⟩
    have k2 := k1.trans (b2.mono k1.size)
    clear b2 k1
    go_wp2
    go_ret
    exact ⟨rfl, k2⟩
  · have hc : 400 < s.size := by rcases hor with h | h; cases h; exact h
    clear hor
    go_enter Tryd.func16, Tryd.ntmps16
    go_wp2_with fail
    refine (HF.out).mono ?_
    rintro e w1 ⟨rfl, b1⟩
    have k1 := k0.trans (b1.mono k0.size)
    clear b1 k0 HF
    go_wp2_with fail
    refine ((Haw _ k1).out).mono ?_
    rintro e w2 ⟨rfl, b2⟩
    have k2 := k1.trans (b2.mono k1.size)
    clear b2 k1
    go_wp2
    go_ret
    exact ⟨rfl, k2⟩

set_option maxRecDepth 100000 in
set_option maxHeartbeats 4000000 in
theorem rt_main (A : Option Addr) (c : Nat) (r : List V) (s : ByteArray) (w : World) (hr : RowAt w A r) (hw : ∀ v ∈ r, v.wf) (hE : Env w) (hx : fewB [r] = true) (hs : s.size ≤ 400) :
    Calls Tryd.prog 16 #[.slice A r.length c, .string s] w fun e w' => e = .returned (.bool true) ∧ Below w.heap.size w w' := by
  have k0 := below_one w (.cells #[.slice A r.length c] 23)
  have Haw := fun W (h : Below w.heap.size w W) => hid (awake2 W (hE.below h).tab)
  have HF := hid (law_few (some ⟨w.heap.size, 0, none⟩) 1 [r] _ (rowsAt1 (hr.below k0) (heap1 w _)) (by simp) hx)
  have hrl := (few1 hx).1
  have Hof := fun W (h : Below w.heap.size w W) => hid (law_of A c r W (hr.below h) (by omega))
  have Hrv := fun (A1 : Option Addr) (n1 : Nat) W (h : RowAt W A1 r) (y : Bool) (hy : r.all V.valid = y) => hid (refRow_valid A1 n1 r W h (by omega) hy)
  obtain ⟨y, hy⟩ : ∃ y, rowQ s.data.toList = y := ⟨_, rfl⟩
  have Hp1 := fun W => hid (refRow_parse s W (by omega) hy)
  have Hp2 := fun W (h : Below w.heap.size w W) => hid (row_parse s W (by omega) (hE.below h) hy)
  cases hv : r.all V.valid
  · have HV := hid hv
    cases y with
    | none =>
      have Hn : ∀ W, Hid (Calls Tryd.prog 22 #[.slice none 0 0] W (RetRow W [])) := fun W => hid (law_of none 0 [] W RowAt.nil (by simp))
      have Hc : ∀ (A1 : Option Addr) (m1 : Nat) W (h : RowAt W A1 ([] : List V)), Hid (Calls Tryd.prog 24 #[.slice A1 0 m1, .slice none 0 0, .slice none 0 0] W fun e w' => e = .returned (.int .i64 0) ∧ Below W.heap.size W w') := fun A1 m1 W h => hid (refRow_cmp A1 none none m1 0 0 [] [] [] W ((rowCmp_ord []).refl []) h RowAt.nil BoolsAt.nil (by simp) (by simp) (by simp) (by intro v hv; simp at hv) (by intro v hv; simp at hv))
      clear hx hr hw hE hy hv
      go_enter Tryd.func16, Tryd.ntmps16
      go_wp2_with fail
      refine (HF.out).mono ?_
      rintro e w1 ⟨rfl, b1⟩
      have k1 := k0.trans (b1.mono k0.size)
      clear b1 k0 HF
      go_wp2_with fail
      refine (Hof _ k1).out.mono ?_
      rintro e w2 ⟨A2, c2, rfl, hx2, b2⟩
      have k2 := k1.trans (b2.mono k1.size)
      clear b2 k1
      go_wp2_with fail
      refine (Hrv A2 c2 _ hx2 false HV.out).out.mono ?_
      rintro e w3 ⟨rfl, b3⟩
      have k3 := k2.trans (b3.mono k2.size)
      clear b3 k2
      go_wp2_with fail
      refine (Hp1 _).out.mono ?_
      rintro e w4 ⟨rfl, b4⟩
      have k4 := k3.trans (b4.mono k3.size)
      clear b4 k3
      go_wp2_with fail
      refine (Hp2 _ k4).out.mono ?_
      rintro e w5 ⟨rfl, b5⟩
      have k5 := k4.trans (b5.mono k4.size)
      clear b5 k4
      go_wp2_with fail
      refine (Haw _ k5).out.mono ?_
      rintro e w6 ⟨rfl, b6⟩
      have k6 := k5.trans (b6.mono k5.size)
      clear b6 k5
      go_wp2_with fail
      refine (Hn _).out.mono ?_
      rintro e w7 ⟨A8, c8, rfl, hx8, b7⟩
      have k7 := k6.trans (b7.mono k6.size)
      clear b7 k6
      go_wp2_with fail
      refine (Hc A8 c8 _ hx8).out.mono ?_
      rintro e w8 ⟨rfl, b8⟩
      have k8 := k7.trans (b8.mono k7.size)
      clear b8 k7
      go_wp2
      go_ret
      exact ⟨rfl, k8⟩
    | some vs =>
      obtain ⟨hTx, hvs, hvl⟩ := rowQ_inv hy
      obtain ⟨hok2, hval2, hso2, htl2⟩ := text_ok hvs
      have hll : s.data.toList.length = s.size := by simp
      have hvl2 : vs.length ≤ 400 := by omega
      have hTs : s = ⟨(rowTextL vs).toArray⟩ := by rw [hTx]
      have Ho := fun (A1 : Option Addr) (m1 : Nat) W (h : RowAt W A1 vs) => hid (law_of A1 m1 vs W h (by omega))
      have Hc := fun (A1 A2 : Option Addr) (m1 m2 : Nat) W (h1 : RowAt W A1 vs) (h2 : RowAt W A2 vs) => hid (refRow_cmp A1 A2 none m1 m2 0 vs vs [] W ((rowCmp_ord []).refl vs) h1 h2 BoolsAt.nil (by omega) (by omega) (by simp) hso2 hso2)
      have Ht := fun (A1 : Option Addr) (m1 : Nat) W (h1 : RowAt W A1 vs) (h : Below w.heap.size w W) => hid (row_textB A1 m1 vs W h1 (by omega) hok2 (hE.below h).tab hTs)
      clear hTx hvs hvl hok2 hval2 hso2 htl2 hll hTs
      clear hx hr hw hE hy hv
      go_enter Tryd.func16, Tryd.ntmps16
      go_wp2_with fail
      refine (HF.out).mono ?_
      rintro e w1 ⟨rfl, b1⟩
      have k1 := k0.trans (b1.mono k0.size)
      clear b1 k0 HF
      go_wp2_with fail
      refine (Hof _ k1).out.mono ?_
      rintro e w2 ⟨A2, c2, rfl, hx2, b2⟩
      have k2 := k1.trans (b2.mono k1.size)
      clear b2 k1
      go_wp2_with fail
      refine (Hrv A2 c2 _ hx2 false HV.out).out.mono ?_
      rintro e w3 ⟨rfl, b3⟩
      have k3 := k2.trans (b3.mono k2.size)
      clear b3 k2
      go_wp2_with fail
      refine (Hp1 _).out.mono ?_
      rintro e w4 ⟨B1, n1, rfl, hB1, hn1, b4⟩
      have k4 := k3.trans (b4.mono k3.size)
      clear b4 k3
      go_wp2_with fail
      refine (Hp2 _ k4).out.mono ?_
      rintro e w5 ⟨B2, n2, rfl, hB2, hn2, b5⟩
      have k5 := k4.trans (b5.mono k4.size)
      replace hB1 := hB1.below b5
      clear b5 k4
      go_wp2_with fail
      refine (Haw _ k5).out.mono ?_
      rintro e w6 ⟨rfl, b6⟩
      have k6 := k5.trans (b6.mono k5.size)
      replace hB1 := hB1.below b6
      replace hB2 := hB2.below b6
      clear b6 k5
      go_wp2_with fail
      refine (Ho B2 n2 _ hB2).out.mono ?_
      rintro e w7 ⟨A8, c8, rfl, hx8, b7⟩
      have k7 := k6.trans (b7.mono k6.size)
      replace hB1 := hB1.below b7
      replace hB2 := hB2.below b7
      clear b7 k6
      go_wp2_with fail
      refine (Hc A8 B1 c8 n1 _ hx8 hB1).out.mono ?_
      rintro e w8 ⟨rfl, b8⟩
      have k8 := k7.trans (b8.mono k7.size)
      replace hB2 := hB2.below b8
      clear b8 k7
      go_wp2_with fail
      refine (Ht B2 n2 _ hB2 k8).out.mono ?_
      rintro e w9 ⟨rfl, b9⟩
      have k9 := k8.trans (b9.mono k8.size)
      clear b9 k8
      go_wp2
      go_ret
      exact ⟨rfl, k9⟩
  · have HV := hid hv
    have hvo := valid_ok hw hv
    obtain ⟨hok, hval, hso, htl⟩ := text_ok hvo
    obtain ⟨T, hT⟩ : ∃ T : ByteArray, T = ⟨(rowTextL r).toArray⟩ := ⟨_, rfl⟩
    have hTl : T.data.toList = rowTextL r := by rw [hT]
    have hTz : T.size ≤ 100000 := by rw [hT, sizeT]; omega
    have HT := fun W (h : Below w.heap.size w W) => hid (row_textB A c r W (hr.below h) (by omega) hok (hE.below h).tab hT)
    have HRT := fun (A1 : Option Addr) (m1 : Nat) W (h1 : RowAt W A1 r) => hid (refRow_textB A1 m1 r W h1 (by omega) hok hval hT)
    have HP := fun W (h : Below w.heap.size w W) => hid (row_parse T W hTz (hE.below h) (x := some r) (by rw [hTl]; exact rowQ_text hvo))
    have HEq := fun (A1 : Option Addr) (m1 : Nat) W (h1 : RowAt W A1 r) (h : Below w.heap.size w W) => hid (row_equal A1 A m1 c r r W (x := true) (by rw [(rowCmp_ord []).refl r]; rfl) h1 (hr.below h) (by omega) (by omega))
    clear hvo hok hval hso htl hT hTl
    cases y with
    | none =>
      have Hn : ∀ W, Hid (Calls Tryd.prog 22 #[.slice none 0 0] W (RetRow W [])) := fun W => hid (law_of none 0 [] W RowAt.nil (by simp))
      have Hc : ∀ (A1 : Option Addr) (m1 : Nat) W (h : RowAt W A1 ([] : List V)), Hid (Calls Tryd.prog 24 #[.slice A1 0 m1, .slice none 0 0, .slice none 0 0] W fun e w' => e = .returned (.int .i64 0) ∧ Below W.heap.size W w') := fun A1 m1 W h => hid (refRow_cmp A1 none none m1 0 0 [] [] [] W ((rowCmp_ord []).refl []) h RowAt.nil BoolsAt.nil (by simp) (by simp) (by simp) (by intro v hv; simp at hv) (by intro v hv; simp at hv))
      clear hx hr hw hE hy hv
      go_enter Tryd.func16, Tryd.ntmps16
      go_wp2_with fail
      refine (HF.out).mono ?_
      rintro e w1 ⟨rfl, b1⟩
      have k1 := k0.trans (b1.mono k0.size)
      clear b1 k0 HF
      go_wp2_with fail
      refine (Hof _ k1).out.mono ?_
      rintro e w2 ⟨A2, c2, rfl, hx2, b2⟩
      have k2 := k1.trans (b2.mono k1.size)
      clear b2 k1
      go_wp2_with fail
      refine (Hrv A2 c2 _ hx2 true HV.out).out.mono ?_
      rintro e w3 ⟨rfl, b3⟩
      have k3 := k2.trans (b3.mono k2.size)
      clear b3 k2
      go_wp2_with fail
      refine (HT _ k3).out.mono ?_
      rintro e w4 ⟨rfl, b4⟩
      have k4 := k3.trans (b4.mono k3.size)
      clear b4 k3
      go_wp2_with fail
      refine (HP _ k4).out.mono ?_
      rintro e w5 ⟨B5, n5, rfl, hB5, hn5, b5⟩
      have k5 := k4.trans (b5.mono k4.size)
      clear b5 k4
      go_wp2_with fail
      refine (Hof _ k5).out.mono ?_
      rintro e w6 ⟨A6, c6, rfl, hx6, b6⟩
      have k6 := k5.trans (b6.mono k5.size)
      replace hB5 := hB5.below b6
      clear b6 k5
      go_wp2_with fail
      refine (HRT A6 c6 _ hx6).out.mono ?_
      rintro e w7 ⟨rfl, b7⟩
      have k7 := k6.trans (b7.mono k6.size)
      replace hB5 := hB5.below b7
      clear b7 k6
      go_wp2_with fail
      refine (HEq B5 n5 _ hB5 k7).out.mono ?_
      rintro e w8 ⟨rfl, b8⟩
      have k8 := k7.trans (b8.mono k7.size)
      clear b8 k7
      go_wp2_with fail
      refine (Hp1 _).out.mono ?_
      rintro e w9 ⟨rfl, b9⟩
      have k9 := k8.trans (b9.mono k8.size)
      clear b9 k8
      go_wp2_with fail
      refine (Hp2 _ k9).out.mono ?_
      rintro e w10 ⟨rfl, b10⟩
      have k10 := k9.trans (b10.mono k9.size)
      clear b10 k9
      go_wp2_with fail
      refine (Haw _ k10).out.mono ?_
      rintro e w11 ⟨rfl, b11⟩
      have k11 := k10.trans (b11.mono k10.size)
      clear b11 k10
      go_wp2_with fail
      refine (Hn _).out.mono ?_
      rintro e w12 ⟨A8, c8, rfl, hx8, b12⟩
      have k12 := k11.trans (b12.mono k11.size)
      clear b12 k11
      go_wp2_with fail
      refine (Hc A8 c8 _ hx8).out.mono ?_
      rintro e w13 ⟨rfl, b13⟩
      have k13 := k12.trans (b13.mono k12.size)
      clear b13 k12
      go_wp2
      go_ret
      exact ⟨rfl, k13⟩
    | some vs =>
      obtain ⟨hTx, hvs, hvl⟩ := rowQ_inv hy
      obtain ⟨hok2, hval2, hso2, htl2⟩ := text_ok hvs
      have hll : s.data.toList.length = s.size := by simp
      have hvl2 : vs.length ≤ 400 := by omega
      have hTs : s = ⟨(rowTextL vs).toArray⟩ := by rw [hTx]
      have Ho := fun (A1 : Option Addr) (m1 : Nat) W (h : RowAt W A1 vs) => hid (law_of A1 m1 vs W h (by omega))
      have Hc := fun (A1 A2 : Option Addr) (m1 m2 : Nat) W (h1 : RowAt W A1 vs) (h2 : RowAt W A2 vs) => hid (refRow_cmp A1 A2 none m1 m2 0 vs vs [] W ((rowCmp_ord []).refl vs) h1 h2 BoolsAt.nil (by omega) (by omega) (by simp) hso2 hso2)
      have Ht := fun (A1 : Option Addr) (m1 : Nat) W (h1 : RowAt W A1 vs) (h : Below w.heap.size w W) => hid (row_textB A1 m1 vs W h1 (by omega) hok2 (hE.below h).tab hTs)
      clear hTx hvs hvl hok2 hval2 hso2 htl2 hll hTs
      clear hx hr hw hE hy hv
      go_enter Tryd.func16, Tryd.ntmps16
      go_wp2_with fail
      refine (HF.out).mono ?_
      rintro e w1 ⟨rfl, b1⟩
      have k1 := k0.trans (b1.mono k0.size)
      clear b1 k0 HF
      go_wp2_with fail
      refine (Hof _ k1).out.mono ?_
      rintro e w2 ⟨A2, c2, rfl, hx2, b2⟩
      have k2 := k1.trans (b2.mono k1.size)
      clear b2 k1
      go_wp2_with fail
      refine (Hrv A2 c2 _ hx2 true HV.out).out.mono ?_
      rintro e w3 ⟨rfl, b3⟩
      have k3 := k2.trans (b3.mono k2.size)
      clear b3 k2
      go_wp2_with fail
      refine (HT _ k3).out.mono ?_
      rintro e w4 ⟨rfl, b4⟩
      have k4 := k3.trans (b4.mono k3.size)
      clear b4 k3
      go_wp2_with fail
      refine (HP _ k4).out.mono ?_
      rintro e w5 ⟨B5, n5, rfl, hB5, hn5, b5⟩
      have k5 := k4.trans (b5.mono k4.size)
      clear b5 k4
      go_wp2_with fail
      refine (Hof _ k5).out.mono ?_
      rintro e w6 ⟨A6, c6, rfl, hx6, b6⟩
      have k6 := k5.trans (b6.mono k5.size)
      replace hB5 := hB5.below b6
      clear b6 k5
      go_wp2_with fail
      refine (HRT A6 c6 _ hx6).out.mono ?_
      rintro e w7 ⟨rfl, b7⟩
      have k7 := k6.trans (b7.mono k6.size)
      replace hB5 := hB5.below b7
      clear b7 k6
      go_wp2_with fail
      refine (HEq B5 n5 _ hB5 k7).out.mono ?_
      rintro e w8 ⟨rfl, b8⟩
      have k8 := k7.trans (b8.mono k7.size)
      clear b8 k7
      go_wp2_with fail
      refine (Hp1 _).out.mono ?_
      rintro e w9 ⟨B1, n1, rfl, hB1, hn1, b9⟩
      have k9 := k8.trans (b9.mono k8.size)
      clear b9 k8
      go_wp2_with fail
      refine (Hp2 _ k9).out.mono ?_
      rintro e w10 ⟨B2, n2, rfl, hB2, hn2, b10⟩
      have k10 := k9.trans (b10.mono k9.size)
      replace hB1 := hB1.below b10
      clear b10 k9
      go_wp2_with fail
      refine (Haw _ k10).out.mono ?_
      rintro e w11 ⟨rfl, b11⟩
      have k11 := k10.trans (b11.mono k10.size)
      replace hB1 := hB1.below b11
      replace hB2 := hB2.below b11
      clear b11 k10
      go_wp2_with fail
      refine (Ho B2 n2 _ hB2).out.mono ?_
      rintro e w12 ⟨A8, c8, rfl, hx8, b12⟩
      have k12 := k11.trans (b12.mono k11.size)
      replace hB1 := hB1.below b12
      replace hB2 := hB2.below b12
      clear b12 k11
      go_wp2_with fail
      refine (Hc A8 B1 c8 n1 _ hx8 hB1).out.mono ?_
      rintro e w13 ⟨rfl, b13⟩
      have k13 := k12.trans (b13.mono k12.size)
      replace hB2 := hB2.below b13
      clear b13 k12
      go_wp2_with fail
      refine (Ht B2 n2 _ hB2 k13).out.mono ?_
      rintro e w14 ⟨rfl, b14⟩
      have k14 := k13.trans (b14.mono k13.size)
      clear b14 k13
      go_wp2
      go_ret
      exact ⟨rfl, k14⟩

theorem law_rtexts (A : Option Addr) (c : Nat) (r : List V) (s : ByteArray) (w : World) (hr : RowAt w A r) (hw : ∀ v ∈ r, v.wf) (hE : Env w) :
    Calls Tryd.prog 16 #[.slice A r.length c, .string s] w fun e w' => e = .returned (.bool true) ∧ Below w.heap.size w w' := by
  cases hx : fewB [r]
  · exact rt_big A c r s w hr hE hx (.inl rfl)
  · by_cases hs : 400 < s.size
    · exact rt_big A c r s w hr hE hx (.inr hs)
    · exact rt_main A c r s w hr hw hE hx (by omega)
end Go.Proofs.YtkoajdbijlpgaaaDoor
