/-
  WALK: ast.replace: a query with a function applied to every variable, in memory of its own.
-/
import Derived.Test.YtgeapgbebbapmaaDoorRenM
import Derived.Test.YtgeapgbebbapmaaDoorReg
import Derived.Test.YtgeapgbebbapmaaDoorRenK
import Derived.Deep.QuietTactic
import Derived.Deep.DeepCutAuto
namespace Go.Proofs.YtgeapgbebbapmaaDoor
open Go.RowKit

set_option maxRecDepth 100000 in
set_option pp.maxSteps 1000000 in
set_option pp.deepTerms true in
set_option maxHeartbeats 32000000 in
theorem ast_replace (f : Str → Str) (gm : Nat) (q : Qry) (A R O : Option Addr) (ch cr co : Nat) (w : World) (hq : QryIn w q A R O ch cr co) (hwf : q.wf) (hs : q.some)
    (hrn : ∀ (W : World) (Z : ByteArray), Below w.heap.size w W → Z.size ≤ maxLen → Hid (Calls Tryd.prog 44 #[.string Z, .pointer (some ⟨gm, 0, none⟩)] W fun e w' => e = .returned (.string ⟨(f Z.data.toList).toArray⟩) ∧ Below W.heap.size W w')) :
    Calls Tryd.prog 45 #[qryV q A R O ch cr co, .func (.func 44) #[] #[.pointer (some ⟨gm, 0, none⟩)]] w (RetQ w (mapQ f q)) := by
  have HQ := hid hq
  have HWF := hid hwf
  have HSM := hid hs
  have HRN := hid hrn
  obtain ⟨hHd, hRl, hOr, lh, lr, lo, mh, mr, mo⟩ := hq
  have HHd := hid hHd
  have HRl := hid hRl
  have HOr := hid hOr
  obtain ⟨Y, hY, hYd, _⟩ := nm q.aggVar
  have hYs := maxLen_of hYd hwf.aggVar
  have HY := hid hY
  have HYd := hid hYd
  obtain ⟨FY, hFY⟩ : ∃ X : ByteArray, (⟨(f Y.data.toList).toArray⟩ : ByteArray) = X := ⟨_, rfl⟩
  have HFY := hid hFY
  have HYs := hid hYs
  obtain ⟨s0, hs0, hs1, hs2, hs3⟩ := info_parts infoStr
  obtain ⟨t0, ht0, ht1, ht2, ht3⟩ := info_parts infoTrmN
  obtain ⟨a0, ha0, ha1, ha2, ha3⟩ := info_parts infoAtmN
  obtain ⟨c0, hc0, hc1, hc2, hc3⟩ := info_parts infoCndN
  obtain ⟨r0, hr0, hr1, hr2, hr3⟩ := info_parts infoRulN
  obtain ⟨k0, hk0, hk1, hk2, hk3⟩ := info_parts infoKeyN
  unfold qryV
  simp only [hY]
  clear hY hYd hYs hFY hwf hs hrn hHd hRl hOr
  obtain ⟨hd, ga, av, rs, os⟩ := q
  simp only at *
  have HB0 : Hid (QIn w (.slice A hd.length ch) (.int .i64 ga) (.string Y) (.slice R rs.length cr) (.slice O os.length co) 26 (.cells #[.slice none 0 0, .int .i64 0, .string ⟨#[]⟩, .slice none 0 0, .slice none 0 0] 26) ((w.alloc (.cells #[.slice A hd.length ch, .int .i64 ga, .string Y, .slice R rs.length cr, .slice O os.length co] 26)).alloc (.cells #[.slice none 0 0, .int .i64 0, .string ⟨#[]⟩, .slice none 0 0, .slice none 0 0] 26))) := hid QIn.refl
  go_enter Tryd.func45, Tryd.ntmps45
  go_upto_region 1 with fail
  have hws : ((w.alloc (.cells #[.slice A hd.length ch, .int .i64 ga, .string Y, .slice R rs.length cr, .slice O os.length co] 26)).alloc (.cells #[.slice none 0 0, .int .i64 0, .string ⟨#[]⟩, .slice none 0 0, .slice none 0 0] 26)).heap.size = w.heap.size + 1 + 1 := by simp
  have hCY : ∀ W, Below w.heap.size w W → Hid (Calls Tryd.prog 44 #[.string Y, .pointer (some ⟨gm, 0, none⟩)] W fun e w' => e = .returned (.string FY) ∧ Below W.heap.size W w') := fun W h => hid (by have := (HRN.out W Y h HYs.out).out; rw [HFY.out] at this; exact this)
  have HCY := hid hCY
  have HWS := hid hws
  clear hws hCY
  generalize ((w.alloc (.cells #[.slice A hd.length ch, .int .i64 ga, .string Y, .slice R rs.length cr, .slice O os.length co] 26)).alloc (.cells #[.slice none 0 0, .int .i64 0, .string ⟨#[]⟩, .slice none 0 0, .slice none 0 0] 26)) = wa at *
  obtain ⟨q0, q1, q2, q3, q4, qz, qlt, hbel⟩ := HB0.out.cells
  have Q1 := hid q1
  have Q2 := hid q2
  have QL := hid qlt
  have HBE := hid hbel
  clear q0 q1 q2 q3 q4 qz qlt hbel
  refine wp_region_inv2 (fun d ac w9 => ∃ x20 x21 x22 x23 x24 x25 x26 x5 : Value, ac = { tmps := List.toArray ((Value.agg #[Value.slice A hd.length ch, Value.int IntKind.i64 ga, Value.string Y, Value.slice R rs.length cr, Value.slice O os.length co]) :: (Value.func (Fn.func 44) #[] #[Value.pointer (some { block := gm, off := 0 })]) :: (Value.pointer (some { block := w.heap.size, off := 0 })) :: undef :: (Value.pointer (some { block := w.heap.size + 1, off := 0 })) :: x5 :: undef :: undef :: undef :: undef :: undef :: undef :: undef :: undef :: undef :: undef :: undef :: undef :: undef :: undef :: x20 :: x21 :: x22 :: x23 :: x24 :: x25 :: x26 :: undef :: undef :: undef :: undef :: undef :: undef :: undef :: undef :: undef :: undef :: undef :: undef :: undef :: undef :: undef :: undef :: undef :: undef :: undef :: undef :: undef :: undef :: undef :: undef :: undef :: undef :: undef :: undef :: undef :: undef :: undef :: undef :: undef :: undef :: undef :: undef :: undef :: undef :: undef :: undef :: undef :: undef :: undef :: undef :: undef :: undef :: undef :: undef :: undef :: undef :: undef :: undef :: undef :: undef :: undef :: undef :: undef :: undef :: undef :: undef :: undef :: undef :: undef :: undef :: undef :: undef :: undef :: undef :: undef :: undef :: undef :: undef :: undef :: undef :: undef :: undef :: undef :: undef :: undef :: undef :: undef :: undef :: undef :: undef :: undef :: undef :: undef :: undef :: undef :: undef :: undef :: undef :: undef :: undef :: undef :: undef :: undef :: undef :: undef :: undef :: undef :: undef :: undef :: undef :: undef :: undef :: undef :: undef :: undef :: undef :: undef :: undef :: []), defers := [] } ∧ ((d 8 = false ∧ Hid (Below (wa.heap.size) wa w9) ∧ Hid (d 0 = true → x20 = .pointer (some ⟨w.heap.size, 1, none⟩)) ∧ Hid (d 1 = true → x21 = .int .i64 ga) ∧ Hid (d 2 = true → x22 = .func (.func 44) #[] #[.pointer (some ⟨gm, 0, none⟩)]) ∧ Hid (d 3 = true → x23 = .pointer (some ⟨w.heap.size, 2, none⟩)) ∧ Hid (d 4 = true → x24 = .string Y) ∧ Hid (d 5 = true → x25 = .string FY) ∧ Hid (d 6 = true → x26 = .agg #[.slice none 0 0, .int .i64 ga, .string FY, .slice none 0 0, .slice none 0 0]) ∧ Hid (d 7 = true → ∃ g, x5 = .pointer (some ⟨g, 0, none⟩) ∧ (wa.heap.size ≤ g ∧ w9.heap[g]? = some (.cells #[.slice none 0 0, .int .i64 0, .string ⟨#[]⟩, .slice none 0 0, .slice none 0 0] 26 (0, 0))))) ∨ (d 8 = true ∧ Hid (∃ g5, x5 = .pointer (some ⟨g5, 0, none⟩) ∧ wa.heap.size ≤ g5 ∧ w9.heap[g5]? = some (.cells #[.slice none 0 0, .int .i64 ga, .string FY, .slice none 0 0, .slice none 0 0] 26 (0, 0)) ∧ Below wa.heap.size wa w9)))) (by kernel_rfl) (by kernel_rfl) ?h0 ?hst ?fin
  case h0 => exact ⟨_, _, _, _, _, _, _, _, rfl, .inl ⟨rfl, hid (Below.drew (Below.refl _ _)), hid (fun h => absurd h (by decide)), hid (fun h => absurd h (by decide)), hid (fun h => absurd h (by decide)), hid (fun h => absurd h (by decide)), hid (fun h => absurd h (by decide)), hid (fun h => absurd h (by decide)), hid (fun h => absurd h (by decide)), hid (fun h => absurd h (by decide))⟩⟩
  case hst =>
    refine ⟨?_, ?_, ?_, ?_, ?_, ?_, ?_, ?_, ?_, trivial⟩
    · rintro d ac w9 ⟨x20, x21, x22, x23, x24, x25, x26, x5, rfl, hI⟩ hcl hdk haft
      rcases hI with ⟨hdf, HB, f0, f1, f2, f3, f4, f5, f6, f7⟩ | ⟨hdl, _⟩
      rotate_left
      · exact absurd ((hcl 1 _ rfl (hcl 6 _ rfl (hcl 8 _ rfl hdl ⟨6, .data⟩ (by simp) rfl) ⟨1, .data⟩ (by simp) rfl) ⟨0, .data⟩ (by simp) rfl).symm.trans hdk) (by decide)
      have HW := HB
      have hdz := hid hdf
      clear  hdk haft hcl hdf
      go_wp2
      exact rthenK_n ⟨_, _, _, _, _, _, _, _, rfl, .inl ⟨rkd rfl hdz, hid (HB.out.trans ((Below.refl w9.heap.size w9).mono (Nat.le_trans (Nat.le_refl _) HB.out.size))), rnf rfl, rkf rfl f1 (fun h => by first | exact h | exact rfl), rkf rfl f2 (fun h => by first | exact h | exact rfl), rkf rfl f3 (fun h => by first | exact h | exact rfl), rkf rfl f4 (fun h => by first | exact h | exact rfl), rkf rfl f5 (fun h => by first | exact h | exact rfl), rkf rfl f6 (fun h => by first | exact h | exact rfl), rkf rfl f7 (fun h => (by obtain ⟨g, e1, e2⟩ := h; exact ⟨g, e1, ⟨e2.1, res_keep' e2.2 (Below.refl w9.heap.size w9) (lt_of_block e2.2)⟩⟩))⟩⟩
    · rintro d ac w9 ⟨x20, x21, x22, x23, x24, x25, x26, x5, rfl, hI⟩ hcl hdk haft
      rcases hI with ⟨hdf, HB, f0, f1, f2, f3, f4, f5, f6, f7⟩ | ⟨hdl, _⟩
      rotate_left
      · exact absurd ((hcl 6 _ rfl (hcl 8 _ rfl hdl ⟨6, .data⟩ (by simp) rfl) ⟨1, .data⟩ (by simp) rfl).symm.trans hdk) (by decide)
      have h0 := haft ⟨0, .data⟩ (by simp) rfl
      have HW := HB
      obtain rfl := f0.out h0
      have hdz := hid hdf
      have q1 := cell_keep HW.out Q1.out
      have qlt : w.heap.size < w9.heap.size := by have := HW.out.size; have := QL.out; omega
      clear h0 hdk haft hcl hdf
      go_wp2
      exact rthenK_n ⟨_, _, _, _, _, _, _, _, rfl, .inl ⟨rkd rfl hdz, hid (HB.out.trans ((Below.refl w9.heap.size w9).mono (Nat.le_trans (Nat.le_refl _) HB.out.size))), rkf rfl f0 (fun h => by first | exact h | exact rfl), rnf rfl, rkf rfl f2 (fun h => by first | exact h | exact rfl), rkf rfl f3 (fun h => by first | exact h | exact rfl), rkf rfl f4 (fun h => by first | exact h | exact rfl), rkf rfl f5 (fun h => by first | exact h | exact rfl), rkf rfl f6 (fun h => by first | exact h | exact rfl), rkf rfl f7 (fun h => (by obtain ⟨g, e1, e2⟩ := h; exact ⟨g, e1, ⟨e2.1, res_keep' e2.2 (Below.refl w9.heap.size w9) (lt_of_block e2.2)⟩⟩))⟩⟩
    · rintro d ac w9 ⟨x20, x21, x22, x23, x24, x25, x26, x5, rfl, hI⟩ hcl hdk haft
      rcases hI with ⟨hdf, HB, f0, f1, f2, f3, f4, f5, f6, f7⟩ | ⟨hdl, _⟩
      rotate_left
      · exact absurd ((hcl 5 _ rfl (hcl 6 _ rfl (hcl 8 _ rfl hdl ⟨6, .data⟩ (by simp) rfl) ⟨5, .data⟩ (by simp) rfl) ⟨2, .data⟩ (by simp) rfl).symm.trans hdk) (by decide)
      have HW := HB
      have hdz := hid hdf
      clear  hdk haft hcl hdf
      go_wp2
      exact rthenK_n ⟨_, _, _, _, _, _, _, _, rfl, .inl ⟨rkd rfl hdz, hid (HB.out.trans ((Below.refl w9.heap.size w9).mono (Nat.le_trans (Nat.le_refl _) HB.out.size))), rkf rfl f0 (fun h => by first | exact h | exact rfl), rkf rfl f1 (fun h => by first | exact h | exact rfl), rnf rfl, rkf rfl f3 (fun h => by first | exact h | exact rfl), rkf rfl f4 (fun h => by first | exact h | exact rfl), rkf rfl f5 (fun h => by first | exact h | exact rfl), rkf rfl f6 (fun h => by first | exact h | exact rfl), rkf rfl f7 (fun h => (by obtain ⟨g, e1, e2⟩ := h; exact ⟨g, e1, ⟨e2.1, res_keep' e2.2 (Below.refl w9.heap.size w9) (lt_of_block e2.2)⟩⟩))⟩⟩
    · rintro d ac w9 ⟨x20, x21, x22, x23, x24, x25, x26, x5, rfl, hI⟩ hcl hdk haft
      rcases hI with ⟨hdf, HB, f0, f1, f2, f3, f4, f5, f6, f7⟩ | ⟨hdl, _⟩
      rotate_left
      · exact absurd ((hcl 4 _ rfl (hcl 5 _ rfl (hcl 6 _ rfl (hcl 8 _ rfl hdl ⟨6, .data⟩ (by simp) rfl) ⟨5, .data⟩ (by simp) rfl) ⟨4, .data⟩ (by simp) rfl) ⟨3, .data⟩ (by simp) rfl).symm.trans hdk) (by decide)
      have HW := HB
      have hdz := hid hdf
      clear  hdk haft hcl hdf
      go_wp2
      exact rthenK_n ⟨_, _, _, _, _, _, _, _, rfl, .inl ⟨rkd rfl hdz, hid (HB.out.trans ((Below.refl w9.heap.size w9).mono (Nat.le_trans (Nat.le_refl _) HB.out.size))), rkf rfl f0 (fun h => by first | exact h | exact rfl), rkf rfl f1 (fun h => by first | exact h | exact rfl), rkf rfl f2 (fun h => by first | exact h | exact rfl), rnf rfl, rkf rfl f4 (fun h => by first | exact h | exact rfl), rkf rfl f5 (fun h => by first | exact h | exact rfl), rkf rfl f6 (fun h => by first | exact h | exact rfl), rkf rfl f7 (fun h => (by obtain ⟨g, e1, e2⟩ := h; exact ⟨g, e1, ⟨e2.1, res_keep' e2.2 (Below.refl w9.heap.size w9) (lt_of_block e2.2)⟩⟩))⟩⟩
    · rintro d ac w9 ⟨x20, x21, x22, x23, x24, x25, x26, x5, rfl, hI⟩ hcl hdk haft
      rcases hI with ⟨hdf, HB, f0, f1, f2, f3, f4, f5, f6, f7⟩ | ⟨hdl, _⟩
      rotate_left
      · exact absurd ((hcl 5 _ rfl (hcl 6 _ rfl (hcl 8 _ rfl hdl ⟨6, .data⟩ (by simp) rfl) ⟨5, .data⟩ (by simp) rfl) ⟨4, .data⟩ (by simp) rfl).symm.trans hdk) (by decide)
      have h3 := haft ⟨3, .data⟩ (by simp) rfl
      have HW := HB
      obtain rfl := f3.out h3
      have hdz := hid hdf
      have q2 := cell_keep HW.out Q2.out
      have qlt : w.heap.size < w9.heap.size := by have := HW.out.size; have := QL.out; omega
      clear h3 hdk haft hcl hdf
      go_wp2
      exact rthenK_n ⟨_, _, _, _, _, _, _, _, rfl, .inl ⟨rkd rfl hdz, hid (HB.out.trans ((Below.refl w9.heap.size w9).mono (Nat.le_trans (Nat.le_refl _) HB.out.size))), rkf rfl f0 (fun h => by first | exact h | exact rfl), rkf rfl f1 (fun h => by first | exact h | exact rfl), rkf rfl f2 (fun h => by first | exact h | exact rfl), rkf rfl f3 (fun h => by first | exact h | exact rfl), rnf rfl, rkf rfl f5 (fun h => by first | exact h | exact rfl), rkf rfl f6 (fun h => by first | exact h | exact rfl), rkf rfl f7 (fun h => (by obtain ⟨g, e1, e2⟩ := h; exact ⟨g, e1, ⟨e2.1, res_keep' e2.2 (Below.refl w9.heap.size w9) (lt_of_block e2.2)⟩⟩))⟩⟩
    · rintro d ac w9 ⟨x20, x21, x22, x23, x24, x25, x26, x5, rfl, hI⟩ hcl hdk haft
      rcases hI with ⟨hdf, HB, f0, f1, f2, f3, f4, f5, f6, f7⟩ | ⟨hdl, _⟩
      rotate_left
      · exact absurd ((hcl 6 _ rfl (hcl 8 _ rfl hdl ⟨6, .data⟩ (by simp) rfl) ⟨5, .data⟩ (by simp) rfl).symm.trans hdk) (by decide)
      have h2 := haft ⟨2, .data⟩ (by simp) rfl
      have h4 := haft ⟨4, .data⟩ (by simp) rfl
      have HW := HB
      obtain rfl := f2.out h2
      obtain rfl := f4.out h4
      have hdz := hid hdf
      clear h2 h4 hdk haft hcl hdf
      go_wp2_with fail
      refine (HCY.out w9 (HBE.out.trans (HB.out.mono HBE.out.size))).out.mono ?_
      rintro e w8 ⟨rfl, b8⟩
      go_wp2
      exact rthenK_n ⟨_, _, _, _, _, _, _, _, rfl, .inl ⟨rkd rfl hdz, hid (HB.out.trans (b8.mono (Nat.le_trans (Nat.le_refl _) HB.out.size))), rkf rfl f0 (fun h => by first | exact h | exact rfl), rkf rfl f1 (fun h => by first | exact h | exact rfl), rkf rfl f2 (fun h => by first | exact h | exact rfl), rkf rfl f3 (fun h => by first | exact h | exact rfl), rkf rfl f4 (fun h => by first | exact h | exact rfl), rnf rfl, rkf rfl f6 (fun h => by first | exact h | exact rfl), rkf rfl f7 (fun h => (by obtain ⟨g, e1, e2⟩ := h; exact ⟨g, e1, ⟨e2.1, res_keep' e2.2 b8 (lt_of_block e2.2)⟩⟩))⟩⟩
    · rintro d ac w9 ⟨x20, x21, x22, x23, x24, x25, x26, x5, rfl, hI⟩ hcl hdk haft
      rcases hI with ⟨hdf, HB, f0, f1, f2, f3, f4, f5, f6, f7⟩ | ⟨hdl, _⟩
      rotate_left
      · exact absurd ((hcl 8 _ rfl hdl ⟨6, .data⟩ (by simp) rfl).symm.trans hdk) (by decide)
      have h1 := haft ⟨1, .data⟩ (by simp) rfl
      have h5 := haft ⟨5, .data⟩ (by simp) rfl
      have HW := HB
      obtain rfl := f1.out h1
      obtain rfl := f5.out h5
      have hdz := hid hdf
      clear h1 h5 hdk haft hcl hdf
      go_wp2
      exact rthenK_n ⟨_, _, _, _, _, _, _, _, rfl, .inl ⟨rkd rfl hdz, hid (HB.out.trans ((Below.refl w9.heap.size w9).mono (Nat.le_trans (Nat.le_refl _) HB.out.size))), rkf rfl f0 (fun h => by first | exact h | exact rfl), rkf rfl f1 (fun h => by first | exact h | exact rfl), rkf rfl f2 (fun h => by first | exact h | exact rfl), rkf rfl f3 (fun h => by first | exact h | exact rfl), rkf rfl f4 (fun h => by first | exact h | exact rfl), rkf rfl f5 (fun h => by first | exact h | exact rfl), rnf rfl, rkf rfl f7 (fun h => (by obtain ⟨g, e1, e2⟩ := h; exact ⟨g, e1, ⟨e2.1, res_keep' e2.2 (Below.refl w9.heap.size w9) (lt_of_block e2.2)⟩⟩))⟩⟩
    · rintro d ac w9 ⟨x20, x21, x22, x23, x24, x25, x26, x5, rfl, hI⟩ hcl hdk haft
      rcases hI with ⟨hdf, HB, f0, f1, f2, f3, f4, f5, f6, f7⟩ | ⟨hdl, _⟩
      rotate_left
      · exact absurd ((hcl 8 _ rfl hdl ⟨7, .data⟩ (by simp) rfl).symm.trans hdk) (by decide)
      have HW := HB
      have hdz := hid hdf
      clear  hdk haft hcl hdf
      go_wp2
      exact rthenK_n ⟨_, _, _, _, _, _, _, _, rfl, .inl ⟨rkd rfl hdz, hid (HB.out.trans ((below_one w9 _).mono (Nat.le_trans (Nat.le_refl _) HB.out.size))), rkf rfl f0 (fun h => by first | exact h | exact rfl), rkf rfl f1 (fun h => by first | exact h | exact rfl), rkf rfl f2 (fun h => by first | exact h | exact rfl), rkf rfl f3 (fun h => by first | exact h | exact rfl), rkf rfl f4 (fun h => by first | exact h | exact rfl), rkf rfl f5 (fun h => by first | exact h | exact rfl), rkf rfl f6 (fun h => by first | exact h | exact rfl), rnf ⟨_, rfl, ⟨HB.out.size, heap_alloc_new w9 _⟩⟩⟩⟩
    · rintro d ac w9 ⟨x20, x21, x22, x23, x24, x25, x26, x5, rfl, hI⟩ hcl hdk haft
      rcases hI with ⟨hdf, HB, f0, f1, f2, f3, f4, f5, f6, f7⟩ | ⟨hdl, _⟩
      rotate_left
      · exact absurd (hdl.symm.trans hdk) (by decide)
      have h7 := haft ⟨7, .data⟩ (by simp) rfl
      have h6 := haft ⟨6, .data⟩ (by simp) rfl
      have HW := HB
      obtain ⟨g7, rfl, hg7⟩ := f7.out h7
      have HG7 := hid (hg7)
      clear hg7
      obtain rfl := f6.out h6
      have hdz := hid hdf
      clear h7 h6 hdk haft hcl hdf
      go_wp2_with (refine wpList_stored2 rfl rfl rfl rfl HG7.out.2 infoQryN rfl rfl ?_; intro w8 hz8 hg8)
      exact rthenK_n ⟨_, _, _, _, _, _, _, _, rfl, .inr ⟨rfl, hid (⟨_, rfl, HG7.out.1, hz8, HB.out.grown hg8 HB.out.size (fun k e => by injection e with e; subst e; exact HG7.out.1)⟩)⟩⟩
  case fin =>
    rintro d ac w9 ⟨x20, x21, x22, x23, x24, x25, x26, x5, rfl, hI⟩ hall
    rcases hI with ⟨hd, _⟩ | ⟨_, HE⟩
    · exact absurd ((hall 8).symm.trans hd) (by decide)
    clear hall
    obtain ⟨g5, rfl, hg5, hp1, hb1⟩ := HE.out
    have hg52 : w.heap.size + 1 + 1 ≤ g5 := by have := HWS.out; omega
    have HQ1 := hid (HB0.out.on hb1 (by have := HWS.out; omega))
    have hgl := lt_of_block hp1
    have HP1 := hid hp1
    obtain ⟨BN, hBN⟩ : ∃ n, w9.heap.size = n := ⟨_, rfl⟩
    have hBw1 : BN ≤ w9.heap.size := by omega
    rw [hBN] at hgl
    obtain ⟨q0, q1, q2, q3, q4, qz, qlt, hbel⟩ := HQ1.out.cells
    clear HE HB0 HCY HWS Q1 Q2 QL HBE hg5 hp1 hb1 hBN
    rename World => w1
    go_upto_region 2 with fail
    go_wp2
    clear q0 q1 q2 q3 q4 qz qlt hbel
    go_loopw [30] (fun i wr => ∃ (k1 : Nat) (u : Value), k1 ≤ hd.length ∧ i = .int .i64 k1 ∧ Hid (wr.heap[g5]? = some (.cells #[u, .int .i64 ga, .string FY, .slice none 0 0, .slice none 0 0] 26 (0, 0))) ∧ Hid (wr.ownsRow BN 9 1 u k1 (((hd.take k1).map f).map nmV)) ∧ Hid (QIn w (.slice A hd.length ch) (.int .i64 ga) (.string Y) (.slice R rs.length cr) (.slice O os.length co) 26 (.cells #[.slice none 0 0, .int .i64 0, .string ⟨#[]⟩, .slice none 0 0, .slice none 0 0] 26)  wr) ∧ BN ≤ wr.heap.size) (fun i _ => hd.length - (intOf i).toNat)
    case atStart => exact ⟨0, .slice none 0 0, by omega, rfl, HP1, hid (World.ownsRow_nil _ _ _ _), HQ1, hBw1⟩
    case round =>
      rename World => wa
      obtain ⟨k1, u, hk, rfl, HBX, HU, HQI, hBw⟩ := hrel
      clear HP1 HQ1 hBw1
      obtain ⟨q0, q1, q2, q3, q4, qz, qlt, hbel⟩ := HQI.out.cells
      have hsz := hbel.size
      have hkm := HSM.out.h
      simp only at hkm
      by_cases hlt : k1 < hd.length
      · obtain ⟨bb, o, rfl, hc⟩ := HHd.out (by omega)
        have d0 := cell_keep hbel (hc k1 hlt)
        have hwv := HWF.out.head hd[k1] (List.getElem_mem hlt)
        have htk : ((hd.take (k1 + 1)).map f).map nmV = ((hd.take k1).map f).map nmV ++ [.string ⟨(f hd[k1]).toArray⟩] := by rw [List.take_succ_eq_append_getElem hlt, List.map_append, List.map_append]; rfl
        obtain ⟨v, ev⟩ : ∃ v, hd[k1] = v := ⟨_, rfl⟩
        rw [ev] at d0 hwv htk
        obtain ⟨Z, hZ, hZd, _⟩ := nm v
        rw [hZ] at d0
        have hZs := maxLen_of hZd hwv
        obtain ⟨FZ, hFZ⟩ : ∃ X : ByteArray, (⟨(f Z.data.toList).toArray⟩ : ByteArray) = X := ⟨_, rfl⟩
        have hCZ : ∀ W, Below w.heap.size w W → Hid (Calls Tryd.prog 44 #[.string Z, .pointer (some ⟨gm, 0, none⟩)] W fun e w' => e = .returned (.string FZ) ∧ Below W.heap.size W w') := fun W h => hid (by have := (HRN.out W Z h hZs).out; rw [hFZ] at this; exact this)
        have HCZ := hid hCZ
        clear hCZ
        rw [← hZd, hFZ] at htk
        have HTK := hid htk
        have HBE := hid hbel
        have HBXL := hid hgl
        clear htk hZ hZd hFZ ev hc q0 q1 q2 q3 q4 qz qlt hbel hwv
        go_upto_region 5 with fail
        clear d0
        obtain ⟨XS, hXS⟩ : ∃ xl : List Value, ((hd.take k1).map f).map nmV = xl := ⟨_, rfl⟩
        rw [hXS] at HU HTK
        have HXS := hid hXS
        clear hXS
        refine wp_region_inv2 (fun d ac w9 => ∃ x34 x35 x36 x37 x38 x39 x40 x41 : Value, ac = { tmps := List.toArray ((Value.agg #[Value.slice (some { block := bb, off := o }) hd.length ch, Value.int IntKind.i64 ga, Value.string Y, Value.slice R rs.length cr, Value.slice O os.length co]) :: (Value.func (Fn.func 44) #[] #[Value.pointer (some { block := gm, off := 0 })]) :: (Value.pointer (some { block := w.heap.size, off := 0 })) :: undef :: (Value.pointer (some { block := w.heap.size + 1, off := 0 })) :: (Value.pointer (some { block := g5, off := 0 })) :: undef :: (Value.string Z) :: undef :: undef :: undef :: undef :: undef :: undef :: undef :: undef :: undef :: undef :: undef :: undef :: x20 :: x21 :: x22 :: x23 :: x24 :: x25 :: x26 :: (Value.pointer (some { block := w.heap.size, off := 0 })) :: (Value.slice (some { block := bb, off := o }) hd.length ch) :: (Value.int IntKind.i64 ↑hd.length) :: (Value.int IntKind.i64 ↑k1) :: (Value.bool true) :: (Value.pointer (some { block := bb, off := o + k1 })) :: (Value.string Z) :: x34 :: x35 :: x36 :: x37 :: x38 :: x39 :: x40 :: x41 :: u42 :: undef :: undef :: undef :: undef :: undef :: undef :: undef :: undef :: undef :: undef :: undef :: undef :: undef :: undef :: undef :: undef :: undef :: undef :: undef :: undef :: undef :: undef :: undef :: undef :: undef :: undef :: undef :: undef :: undef :: undef :: undef :: undef :: undef :: undef :: undef :: undef :: undef :: undef :: undef :: undef :: undef :: undef :: undef :: undef :: undef :: undef :: undef :: undef :: undef :: undef :: undef :: undef :: undef :: undef :: undef :: undef :: undef :: undef :: undef :: undef :: undef :: undef :: undef :: undef :: undef :: undef :: undef :: undef :: undef :: undef :: undef :: undef :: undef :: undef :: undef :: undef :: undef :: undef :: undef :: undef :: undef :: undef :: undef :: undef :: undef :: undef :: undef :: undef :: undef :: undef :: undef :: undef :: undef :: undef :: undef :: undef :: []), defers := [] } ∧ ((d 8 = false ∧ Hid (Below (BN) wa w9) ∧ Hid (d 6 = false → Below wa.heap.size wa w9) ∧ Hid (d 0 = true → x34 = .pointer (some ⟨g5, 0, none⟩)) ∧ Hid (d 1 = true → x35 = u) ∧ Hid (d 2 = true → x36 = .func (.func 44) #[] #[.pointer (some ⟨gm, 0, none⟩)]) ∧ Hid (d 3 = true → x37 = .string Z) ∧ Hid (d 4 = true → x38 = .string FZ) ∧ Hid (d 5 = true → ∃ g, x39 = .slice (some ⟨g, 0, none⟩) 1 1 ∧ (d 6 = false → w9.heap[g]? = some (.cells #[.string FZ] 9 (0, 0)))) ∧ Hid (d 6 = true → w9.ownsRow (BN) 9 1 x40 (k1 + 1) (XS ++ [.string FZ])) ∧ Hid (d 7 = true → x41 = .pointer (some ⟨g5, 0, none⟩))) ∨ (d 8 = true ∧ Hid (∃ v8, w9.heap[g5]? = some (.cells #[v8, .int .i64 ga, .string FY, .slice none 0 0, .slice none 0 0] 26 (0, 0)) ∧ w9.ownsRow (BN) 9 1 v8 (k1 + 1) (XS ++ [.string FZ]) ∧ Below (g5) wa w9)))) (by kernel_rfl) (by kernel_rfl) ?h0 ?hst ?fin
        case h0 => exact ⟨_, _, _, _, _, _, _, _, rfl, .inl ⟨rfl, hid (Below.drew (Below.refl _ _)), hid (fun _ => Below.drew (Below.refl _ _)), hid (fun h => absurd h (by decide)), hid (fun h => absurd h (by decide)), hid (fun h => absurd h (by decide)), hid (fun h => absurd h (by decide)), hid (fun h => absurd h (by decide)), hid (fun h => absurd h (by decide)), hid (fun h => absurd h (by decide)), hid (fun h => absurd h (by decide))⟩⟩
        case hst =>
          refine ⟨?_, ?_, ?_, ?_, ?_, ?_, ?_, ?_, ?_, trivial⟩
          · rintro d ac w9 ⟨x34, x35, x36, x37, x38, x39, x40, x41, rfl, hI⟩ hcl hdk haft
            rcases hI with ⟨hdf, HB, FA, f0, f1, f2, f3, f4, f5, f6, f7⟩ | ⟨hdl, _⟩
            rotate_left
            · exact absurd ((hcl 1 _ rfl (hcl 6 _ rfl (hcl 8 _ rfl hdl ⟨6, .data⟩ (by simp) rfl) ⟨1, .data⟩ (by simp) rfl) ⟨0, .data⟩ (by simp) rfl).symm.trans hdk) (by decide)
            have hap : d 6 = false := by
              cases hh : d 6 with
              | false => rfl
              | true => exact absurd ((hcl 1 _ rfl (hcl 6 _ rfl hh ⟨1, .data⟩ (by simp) rfl) ⟨0, .data⟩ (by simp) rfl).symm.trans hdk) (by decide)
            have HW := hid (FA.out hap)
            have hdz := hid hdf
            clear  hdk haft hcl hdf hap
            go_wp2
            exact rthenK_n ⟨_, _, _, _, _, _, _, _, rfl, .inl ⟨rkd rfl hdz, hid (HB.out.trans ((Below.refl w9.heap.size w9).mono (Nat.le_trans hBw HB.out.size))), hid (fun h => (FA.out (runupd rfl h)).trans ((Below.refl w9.heap.size w9).mono (FA.out (runupd rfl h)).size)), rnf rfl, rkf rfl f1 (fun h => by first | exact h | exact rfl), rkf rfl f2 (fun h => by first | exact h | exact rfl), rkf rfl f3 (fun h => by first | exact h | exact rfl), rkf rfl f4 (fun h => by first | exact h | exact rfl), rkf rfl f5 (fun h => (by obtain ⟨g, e1, e2⟩ := h; exact ⟨g, e1, fun h15 => res_keep' (e2 (runupd rfl h15)) (Below.refl w9.heap.size w9) (lt_of_block (e2 (runupd rfl h15)))⟩)), rkf rfl f6 (fun h => own_belowS h (Below.refl w9.heap.size w9)), rkf rfl f7 (fun h => by first | exact h | exact rfl)⟩⟩
          · rintro d ac w9 ⟨x34, x35, x36, x37, x38, x39, x40, x41, rfl, hI⟩ hcl hdk haft
            rcases hI with ⟨hdf, HB, FA, f0, f1, f2, f3, f4, f5, f6, f7⟩ | ⟨hdl, _⟩
            rotate_left
            · exact absurd ((hcl 6 _ rfl (hcl 8 _ rfl hdl ⟨6, .data⟩ (by simp) rfl) ⟨1, .data⟩ (by simp) rfl).symm.trans hdk) (by decide)
            have h0 := haft ⟨0, .data⟩ (by simp) rfl
            have hap : d 6 = false := by
              cases hh : d 6 with
              | false => rfl
              | true => exact absurd ((hcl 6 _ rfl hh ⟨1, .data⟩ (by simp) rfl).symm.trans hdk) (by decide)
            have HW := hid (FA.out hap)
            obtain rfl := f0.out h0
            have hdz := hid hdf
            have hp9 := res_keep' HBX.out HB.out HBXL.out
            have r0 := rcell (o := 0) (v := u) hp9 rfl
            have rl := lt_of_block hp9
            clear hp9
            clear h0 hdk haft hcl hdf hap
            go_wp2
            exact rthenK_n ⟨_, _, _, _, _, _, _, _, rfl, .inl ⟨rkd rfl hdz, hid (HB.out.trans ((Below.refl w9.heap.size w9).mono (Nat.le_trans hBw HB.out.size))), hid (fun h => (FA.out (runupd rfl h)).trans ((Below.refl w9.heap.size w9).mono (FA.out (runupd rfl h)).size)), rkf rfl f0 (fun h => by first | exact h | exact rfl), rnf rfl, rkf rfl f2 (fun h => by first | exact h | exact rfl), rkf rfl f3 (fun h => by first | exact h | exact rfl), rkf rfl f4 (fun h => by first | exact h | exact rfl), rkf rfl f5 (fun h => (by obtain ⟨g, e1, e2⟩ := h; exact ⟨g, e1, fun h15 => res_keep' (e2 (runupd rfl h15)) (Below.refl w9.heap.size w9) (lt_of_block (e2 (runupd rfl h15)))⟩)), rkf rfl f6 (fun h => own_belowS h (Below.refl w9.heap.size w9)), rkf rfl f7 (fun h => by first | exact h | exact rfl)⟩⟩
          · rintro d ac w9 ⟨x34, x35, x36, x37, x38, x39, x40, x41, rfl, hI⟩ hcl hdk haft
            rcases hI with ⟨hdf, HB, FA, f0, f1, f2, f3, f4, f5, f6, f7⟩ | ⟨hdl, _⟩
            rotate_left
            · exact absurd ((hcl 4 _ rfl (hcl 5 _ rfl (hcl 6 _ rfl (hcl 8 _ rfl hdl ⟨6, .data⟩ (by simp) rfl) ⟨5, .data⟩ (by simp) rfl) ⟨4, .data⟩ (by simp) rfl) ⟨2, .data⟩ (by simp) rfl).symm.trans hdk) (by decide)
            have hap : d 6 = false := by
              cases hh : d 6 with
              | false => rfl
              | true => exact absurd ((hcl 4 _ rfl (hcl 5 _ rfl (hcl 6 _ rfl hh ⟨5, .data⟩ (by simp) rfl) ⟨4, .data⟩ (by simp) rfl) ⟨2, .data⟩ (by simp) rfl).symm.trans hdk) (by decide)
            have HW := hid (FA.out hap)
            have hdz := hid hdf
            clear  hdk haft hcl hdf hap
            go_wp2
            exact rthenK_n ⟨_, _, _, _, _, _, _, _, rfl, .inl ⟨rkd rfl hdz, hid (HB.out.trans ((Below.refl w9.heap.size w9).mono (Nat.le_trans hBw HB.out.size))), hid (fun h => (FA.out (runupd rfl h)).trans ((Below.refl w9.heap.size w9).mono (FA.out (runupd rfl h)).size)), rkf rfl f0 (fun h => by first | exact h | exact rfl), rkf rfl f1 (fun h => by first | exact h | exact rfl), rnf rfl, rkf rfl f3 (fun h => by first | exact h | exact rfl), rkf rfl f4 (fun h => by first | exact h | exact rfl), rkf rfl f5 (fun h => (by obtain ⟨g, e1, e2⟩ := h; exact ⟨g, e1, fun h15 => res_keep' (e2 (runupd rfl h15)) (Below.refl w9.heap.size w9) (lt_of_block (e2 (runupd rfl h15)))⟩)), rkf rfl f6 (fun h => own_belowS h (Below.refl w9.heap.size w9)), rkf rfl f7 (fun h => by first | exact h | exact rfl)⟩⟩
          · rintro d ac w9 ⟨x34, x35, x36, x37, x38, x39, x40, x41, rfl, hI⟩ hcl hdk haft
            rcases hI with ⟨hdf, HB, FA, f0, f1, f2, f3, f4, f5, f6, f7⟩ | ⟨hdl, _⟩
            rotate_left
            · exact absurd ((hcl 4 _ rfl (hcl 5 _ rfl (hcl 6 _ rfl (hcl 8 _ rfl hdl ⟨6, .data⟩ (by simp) rfl) ⟨5, .data⟩ (by simp) rfl) ⟨4, .data⟩ (by simp) rfl) ⟨3, .data⟩ (by simp) rfl).symm.trans hdk) (by decide)
            have hap : d 6 = false := by
              cases hh : d 6 with
              | false => rfl
              | true => exact absurd ((hcl 4 _ rfl (hcl 5 _ rfl (hcl 6 _ rfl hh ⟨5, .data⟩ (by simp) rfl) ⟨4, .data⟩ (by simp) rfl) ⟨3, .data⟩ (by simp) rfl).symm.trans hdk) (by decide)
            have HW := hid (FA.out hap)
            have hdz := hid hdf
            clear  hdk haft hcl hdf hap
            go_wp2
            exact rthenK_n ⟨_, _, _, _, _, _, _, _, rfl, .inl ⟨rkd rfl hdz, hid (HB.out.trans ((Below.refl w9.heap.size w9).mono (Nat.le_trans hBw HB.out.size))), hid (fun h => (FA.out (runupd rfl h)).trans ((Below.refl w9.heap.size w9).mono (FA.out (runupd rfl h)).size)), rkf rfl f0 (fun h => by first | exact h | exact rfl), rkf rfl f1 (fun h => by first | exact h | exact rfl), rkf rfl f2 (fun h => by first | exact h | exact rfl), rnf rfl, rkf rfl f4 (fun h => by first | exact h | exact rfl), rkf rfl f5 (fun h => (by obtain ⟨g, e1, e2⟩ := h; exact ⟨g, e1, fun h15 => res_keep' (e2 (runupd rfl h15)) (Below.refl w9.heap.size w9) (lt_of_block (e2 (runupd rfl h15)))⟩)), rkf rfl f6 (fun h => own_belowS h (Below.refl w9.heap.size w9)), rkf rfl f7 (fun h => by first | exact h | exact rfl)⟩⟩
          · rintro d ac w9 ⟨x34, x35, x36, x37, x38, x39, x40, x41, rfl, hI⟩ hcl hdk haft
            rcases hI with ⟨hdf, HB, FA, f0, f1, f2, f3, f4, f5, f6, f7⟩ | ⟨hdl, _⟩
            rotate_left
            · exact absurd ((hcl 5 _ rfl (hcl 6 _ rfl (hcl 8 _ rfl hdl ⟨6, .data⟩ (by simp) rfl) ⟨5, .data⟩ (by simp) rfl) ⟨4, .data⟩ (by simp) rfl).symm.trans hdk) (by decide)
            have h2 := haft ⟨2, .data⟩ (by simp) rfl
            have h3 := haft ⟨3, .data⟩ (by simp) rfl
            have hap : d 6 = false := by
              cases hh : d 6 with
              | false => rfl
              | true => exact absurd ((hcl 5 _ rfl (hcl 6 _ rfl hh ⟨5, .data⟩ (by simp) rfl) ⟨4, .data⟩ (by simp) rfl).symm.trans hdk) (by decide)
            have HW := hid (FA.out hap)
            obtain rfl := f2.out h2
            obtain rfl := f3.out h3
            have hdz := hid hdf
            clear h2 h3 hdk haft hcl hdf hap
            go_wp2_with fail
            refine (HCZ.out w9 (HBE.out.trans (HW.out.mono HBE.out.size))).out.mono ?_
            rintro e w8 ⟨rfl, b8⟩
            go_wp2
            exact rthenK_n ⟨_, _, _, _, _, _, _, _, rfl, .inl ⟨rkd rfl hdz, hid (HB.out.trans (b8.mono (Nat.le_trans hBw HB.out.size))), hid (fun h => (FA.out (runupd rfl h)).trans (b8.mono (FA.out (runupd rfl h)).size)), rkf rfl f0 (fun h => by first | exact h | exact rfl), rkf rfl f1 (fun h => by first | exact h | exact rfl), rkf rfl f2 (fun h => by first | exact h | exact rfl), rkf rfl f3 (fun h => by first | exact h | exact rfl), rnf rfl, rkf rfl f5 (fun h => (by obtain ⟨g, e1, e2⟩ := h; exact ⟨g, e1, fun h15 => res_keep' (e2 (runupd rfl h15)) b8 (lt_of_block (e2 (runupd rfl h15)))⟩)), rkf rfl f6 (fun h => own_belowS h b8), rkf rfl f7 (fun h => by first | exact h | exact rfl)⟩⟩
          · rintro d ac w9 ⟨x34, x35, x36, x37, x38, x39, x40, x41, rfl, hI⟩ hcl hdk haft
            rcases hI with ⟨hdf, HB, FA, f0, f1, f2, f3, f4, f5, f6, f7⟩ | ⟨hdl, _⟩
            rotate_left
            · exact absurd ((hcl 6 _ rfl (hcl 8 _ rfl hdl ⟨6, .data⟩ (by simp) rfl) ⟨5, .data⟩ (by simp) rfl).symm.trans hdk) (by decide)
            have h4 := haft ⟨4, .data⟩ (by simp) rfl
            have hap : d 6 = false := by
              cases hh : d 6 with
              | false => rfl
              | true => exact absurd ((hcl 6 _ rfl hh ⟨5, .data⟩ (by simp) rfl).symm.trans hdk) (by decide)
            have HW := hid (FA.out hap)
            obtain rfl := f4.out h4
            have hdz := hid hdf
            clear h4 hdk haft hcl hdf hap
            go_wp2
            exact rthenK_n ⟨_, _, _, _, _, _, _, _, rfl, .inl ⟨rkd rfl hdz, hid (HB.out.trans ((below_one w9 _).mono (Nat.le_trans hBw HB.out.size))), hid (fun h => (FA.out (runupd rfl h)).trans ((below_one w9 _).mono (FA.out (runupd rfl h)).size)), rkf rfl f0 (fun h => by first | exact h | exact rfl), rkf rfl f1 (fun h => by first | exact h | exact rfl), rkf rfl f2 (fun h => by first | exact h | exact rfl), rkf rfl f3 (fun h => by first | exact h | exact rfl), rkf rfl f4 (fun h => by first | exact h | exact rfl), rnf ⟨_, rfl, fun _ => heap_alloc_new w9 _⟩, rkf rfl f6 (fun h => own_belowS h (below_one w9 _)), rkf rfl f7 (fun h => by first | exact h | exact rfl)⟩⟩
          · rintro d ac w9 ⟨x34, x35, x36, x37, x38, x39, x40, x41, rfl, hI⟩ hcl hdk haft
            rcases hI with ⟨hdf, HB, FA, f0, f1, f2, f3, f4, f5, f6, f7⟩ | ⟨hdl, _⟩
            rotate_left
            · exact absurd ((hcl 8 _ rfl hdl ⟨6, .data⟩ (by simp) rfl).symm.trans hdk) (by decide)
            have h1 := haft ⟨1, .data⟩ (by simp) rfl
            have h5 := haft ⟨5, .data⟩ (by simp) rfl
            have hap : d 6 = false := by
              cases hh : d 6 with
              | false => rfl
              | true => exact absurd (hh.symm.trans hdk) (by decide)
            have HW := hid (FA.out hap)
            obtain rfl := f1.out h1
            obtain ⟨g5, rfl, hg5⟩ := f5.out h5
            have HG5 := hid (hg5 hap)
            clear hg5
            have hdz := hid hdf
            clear h1 h5 hdk haft hcl hdf hap
            have HU9 := hid (own_belowS HU.out HW.out)
            go_wp2_with (at_builtin; refine wpList_append_own _ rfl _ _ 22 rfl (BN) 9 s0 _ 1 16 Tryd.underlying22 hs0 hs1 hs2 hs3 rfl (by decide) _ k1 (XS) rfl HU9.out ⟨g5, 0, none⟩ 1 1 [.string FZ] rfl rfl (ren_cells HG5.out rfl) (ren_one rfl) (by unfold maxLen; omega) (by omega) (Nat.le_trans hBw HB.out.size) ?_; intro v8 w8 hown8 hg8 _)
            exact rthenK_n ⟨_, _, _, _, _, _, _, _, rfl, .inl ⟨rkd rfl hdz, hid (HB.out.grown hg8 (Nat.le_trans hBw HB.out.size) (fun k e => (HU9.out.lt k e).1)), hid (fun h => absurd h (fun h => rupd_self h)), rkf rfl f0 (fun h => by first | exact h | exact rfl), rkf rfl f1 (fun h => by first | exact h | exact rfl), rkf rfl f2 (fun h => by first | exact h | exact rfl), rkf rfl f3 (fun h => by first | exact h | exact rfl), rkf rfl f4 (fun h => by first | exact h | exact rfl), rkf rfl f5 (fun h => (by obtain ⟨g, e1, _⟩ := h; exact ⟨g, e1, fun h15 => absurd h15 (fun h => rupd_self h)⟩)), rnf hown8, rkf rfl f7 (fun h => by first | exact h | exact rfl)⟩⟩
          · rintro d ac w9 ⟨x34, x35, x36, x37, x38, x39, x40, x41, rfl, hI⟩ hcl hdk haft
            rcases hI with ⟨hdf, HB, FA, f0, f1, f2, f3, f4, f5, f6, f7⟩ | ⟨hdl, _⟩
            rotate_left
            · exact absurd ((hcl 8 _ rfl hdl ⟨7, .data⟩ (by simp) rfl).symm.trans hdk) (by decide)
            have hdz := hid hdf
            clear  hdk haft hcl hdf
            go_wp2
            exact rthenK_n ⟨_, _, _, _, _, _, _, _, rfl, .inl ⟨rkd rfl hdz, hid (HB.out.trans ((Below.refl w9.heap.size w9).mono (Nat.le_trans hBw HB.out.size))), hid (fun h => (FA.out (runupd rfl h)).trans ((Below.refl w9.heap.size w9).mono (FA.out (runupd rfl h)).size)), rkf rfl f0 (fun h => by first | exact h | exact rfl), rkf rfl f1 (fun h => by first | exact h | exact rfl), rkf rfl f2 (fun h => by first | exact h | exact rfl), rkf rfl f3 (fun h => by first | exact h | exact rfl), rkf rfl f4 (fun h => by first | exact h | exact rfl), rkf rfl f5 (fun h => (by obtain ⟨g, e1, e2⟩ := h; exact ⟨g, e1, fun h15 => res_keep' (e2 (runupd rfl h15)) (Below.refl w9.heap.size w9) (lt_of_block (e2 (runupd rfl h15)))⟩)), rkf rfl f6 (fun h => own_belowS h (Below.refl w9.heap.size w9)), rnf rfl⟩⟩
          · rintro d ac w9 ⟨x34, x35, x36, x37, x38, x39, x40, x41, rfl, hI⟩ hcl hdk haft
            rcases hI with ⟨hdf, HB, FA, f0, f1, f2, f3, f4, f5, f6, f7⟩ | ⟨hdl, _⟩
            rotate_left
            · exact absurd (hdl.symm.trans hdk) (by decide)
            have h7 := haft ⟨7, .data⟩ (by simp) rfl
            have h6 := haft ⟨6, .data⟩ (by simp) rfl
            obtain rfl := f7.out h7
            have hap8 := hid (f6.out h6)
            have hdz := hid hdf
            have hp9 := res_keep' HBX.out HB.out HBXL.out
            have p3 : w9.cell? ⟨g5, 0, none⟩ = some u := rcell hp9 rfl
            have fz : w9.frozen? ⟨g5, 0, none⟩ = false := by simp [World.frozen?, hp9]
            have HP9 := hid hp9
            obtain ⟨g8, cap8, rfl⟩ := own_slice1 hap8.out
            have hne : Value.ownBlock (.slice (some ⟨g8, 0, none⟩) (k1 + 1) cap8) ≠ some (g5) := fun e => by have := (hap8.out.lt _ e).1; have := HBXL.out; omega
            have HNE := hid hne
            clear hp9 hne
            clear h7 h6 hdk haft hcl hdf
            go_wp2
            exact rthenK_n ⟨_, _, _, _, _, _, _, _, rfl, .inr ⟨rfl, hid (⟨_, heap_setCell_same w9 (g5) 0 _ _ _ HP9.out, ownsRow_setCell_other hap8.out (a := ⟨g5, 0, none⟩) HNE.out _, (HB.out.mono (by have := HBXL.out; omega)).setCell (p := ⟨g5, 0, none⟩) (Nat.le_refl (g5)) _⟩)⟩⟩
        case fin =>
          rintro d ac w9 ⟨x34, x35, x36, x37, x38, x39, x40, x41, rfl, hI⟩ hall
          rcases hI with ⟨hd, _⟩ | ⟨_, HE⟩
          · exact absurd ((hall 8).symm.trans hd) (by decide)
          clear hall
          obtain ⟨v8, hp8, hown8, hb8⟩ := HE.out
          have HP8 := hid hp8
          rw [← HTK.out] at hown8
          have HO8 := hid hown8
          have HQ8 := hid (HQI.out.on hb8 hg52)
          have hBw8 : BN ≤ w9.heap.size := Nat.le_trans hBw hb8.size
          clear HE hp8 hown8 hb8
          go_wp2
          go_roundw
          case rel => exact ⟨k1 + 1, v8, by omega, (by first | rfl | go_num), HP8, HO8, HQ8, hBw8⟩
          case measure => simp [intOf]; omega
      · have hke : k1 = hd.length := by omega
        have hU := HU.out
        rw [List.take_of_length_le (by omega), hke] at hU
        have HUH := hid hU
        have hp5 := HBX.out
        obtain ⟨p0, p1, p2, p3, p4, plt⟩ := rbox hp5
        have HBX1 := HBX
        clear hU HU hke hp5 HBX
        go_wp2
        clear q0 q1 q2 q3 q4 qz qlt hbel hsz p0 p1 p2 p3 p4 plt
        go_loopw [46] (fun i wr => ∃ (k : Nat) (v : Value), k ≤ rs.length ∧ i = .int .i64 k ∧ Hid (wr.heap[g5]? = some (.cells #[u, .int .i64 ga, .string FY, v, .slice none 0 0] 26 (0, 0))) ∧ Hid (wr.ownsRow BN 9 1 u hd.length ((hd.map f).map nmV)) ∧ Hid (OwnRls wr BN v ((rs.take k).map (mapR f))) ∧ Hid (QIn w (.slice A hd.length ch) (.int .i64 ga) (.string Y) (.slice R rs.length cr) (.slice O os.length co) 26 (.cells #[.slice none 0 0, .int .i64 0, .string ⟨#[]⟩, .slice none 0 0, .slice none 0 0] 26)  wr) ∧ BN ≤ wr.heap.size) (fun i _ => rs.length - (intOf i).toNat)
        case atStart => exact ⟨0, .slice none 0 0, by omega, rfl, HBX1, HUH, hid OwnRls.nil, HQI, hBw⟩
        case round =>
          clear HBX1 HUH HQI hBw hlt hk
          obtain ⟨k, v, hk, rfl, HP, HUH, HUR, HQI, hBw⟩ := hrel
          rename World => wo
          obtain ⟨q0, q1, q2, q3, q4, qz, qlt, hbel⟩ := HQI.out.cells
          have hsz := hbel.size
          have hrm := HSM.out.r
          simp only at hrm
          by_cases hlt : k < rs.length
          · obtain ⟨bb, o, rfl, hc⟩ := HRl.out (by omega)
            obtain ⟨T, ct, T2, ct2, d0, d1, ha, hcn, _, _, _, _⟩ := hc k hlt
            have hsm := HSM.out.s rs[k] (List.getElem_mem hlt)
            have hwr := HWF.out.rules rs[k] (List.getElem_mem hlt)
            have htk : (rs.take (k + 1)).map (mapR f) = (rs.take k).map (mapR f) ++ [mapR f rs[k]] := by rw [List.take_succ_eq_append_getElem hlt, List.map_append]; rfl
            replace d0 := cell_keep hbel d0
            replace d1 := cell_keep hbel d1
            obtain ⟨ru, er⟩ : ∃ r, rs[k] = r := ⟨_, rfl⟩
            rw [er] at d0 d1 ha hcn hsm hwr htk
            obtain ⟨ats, cds⟩ := ru
            have hna := hsm.a
            have hnc := hsm.c
            have HTS := hid hsm.t
            have HWA := hid hwr.atoms
            have HWC := hid hwr.conds
            simp only at d0 d1 ha hcn hna hnc HTS HWA HWC
            have HAT := hid ha
            have HCN := hid hcn
            have HTKR := hid htk
            obtain ⟨n, hn⟩ : ∃ n, ats.length = n := ⟨_, rfl⟩
            obtain ⟨n2, hn2⟩ : ∃ n, cds.length = n := ⟨_, rfl⟩
            have HN := hid hn
            have HN2 := hid hn2
            rw [hn] at d0 hna
            rw [hn2] at d1 hnc
            clear hc er ha hcn hsm hwr htk hn hn2
            go_upto_region 11 with fail
            have hS := heap_alloc_new (wo.alloc (.cells #[.slice T n ct, .slice T2 n2 ct2] 49)) (.cells #[.slice none 0 0, .slice none 0 0] 49)
            have hR := res_keep' (heap_alloc_new wo (.cells #[.slice T n ct, .slice T2 n2 ct2] 49)) (below_one (wo.alloc (.cells #[.slice T n ct, .slice T2 n2 ct2] 49)) (.cells #[.slice none 0 0, .slice none 0 0] 49)) (by simp)
            have hbwa := below_two wo (.cells #[.slice T n ct, .slice T2 n2 ct2] 49) (.cells #[.slice none 0 0, .slice none 0 0] 49)
            have hgs : (wo.alloc (.cells #[.slice T n ct, .slice T2 n2 ct2] 49)).heap.size = wo.heap.size + 1 := by simp
            rw [hgs] at hS
            have HS1 := hid hS
            have HR1 := hid hR
            have HB1 := hid hbwa
            obtain ⟨s0, s1⟩ := rcell2 hR
            have slt := lt_of_block hR
            clear hgs hbwa q0 q1 q2 q3 q4 qz qlt d0 d1 hS hR hsz
            have HBL := hid hbel
            clear hbel
            generalize ((wo.alloc (.cells #[.slice T n ct, .slice T2 n2 ct2] 49)).alloc (.cells #[.slice none 0 0, .slice none 0 0] 49)) = wa at *
            go_wp2
            clear s0 s1 slt
            go_loopw [53] (fun i wr => ∃ (j : Nat) (x : Value), j ≤ n ∧ i = .int .i64 j ∧ Hid (wr.heap[(wo.heap.size + 1)]? = some (.cells #[x, .slice none 0 0] 49 (0, 0))) ∧ Hid (OwnAts wr (wo.heap.size + 1 + 1) x ((ats.take j).map (mapA f))) ∧ Hid (wr.heap[wo.heap.size]? = some (.cells #[.slice T n ct, .slice T2 n2 ct2] 49 (0, 0))) ∧ Hid (Below wo.heap.size wo wr)) (fun i _ => n - (intOf i).toNat)
            case atStart => exact ⟨0, .slice none 0 0, by omega, rfl, HS1, hid OwnAts.nil, HR1, HB1⟩
            case round =>
              clear HS1 HR1 HB1
              obtain ⟨j, x, hj, rfl, HS, HUA, HR, HB3⟩ := hrel
              rename World => wo3
              have hbo := HBL.out.trans (HB3.out.mono HBL.out.size)
              have hlt3 := lt_of_block HS.out
              by_cases hjn : j < n
              · have hjl : j < ats.length := by rw [HN.out]; exact hjn
                obtain ⟨b2, o2, rfl, hc2⟩ := HAT.out (by omega)
                obtain ⟨Q, qc, d0, d1, d2, ht, _, _⟩ := hc2 j hjl
                have hts := HTS.out ats[j] (List.getElem_mem hjl)
                have hwt := HWA.out ats[j] (List.getElem_mem hjl)
                have htk : (ats.take (j + 1)).map (mapA f) = (ats.take j).map (mapA f) ++ [mapA f ats[j]] := by rw [List.take_succ_eq_append_getElem hjl, List.map_append]; rfl
                replace d0 := cell_keep hbo d0
                replace d1 := cell_keep hbo d1
                replace d2 := cell_keep hbo d2
                obtain ⟨a, ea⟩ : ∃ r, ats[j] = r := ⟨_, rfl⟩
                rw [ea] at d0 d1 d2 ht hts hwt htk
                obtain ⟨neg, rel, ts⟩ := a
                have HWT := hid hwt.ts
                simp only at d0 d1 d2 ht hts HWT
                obtain ⟨X, hX, hXd, _⟩ := nm rel
                rw [hX] at d1
                have HXX := hid hX
                have HT := hid ht
                have HTKA := hid htk
                obtain ⟨m, hm⟩ : ∃ n, ts.length = n := ⟨_, rfl⟩
                have HM := hid hm
                rw [hm] at d2 hts
                clear hc2 ea ht hwt htk hm hX hXd
                have r0 := rcell (o := 0) HR.out rfl
                have rlt := lt_of_block HR.out
                clear r0 rlt
                go_upto_region 15 with fail
                have hS := heap_alloc_new (wo3.alloc (.cells #[.bool neg, .string X, .slice Q m qc] 60)) (.cells #[.bool neg, .string X, .slice none 0 0] 60)
                have hR := res_keep' (heap_alloc_new wo3 (.cells #[.bool neg, .string X, .slice Q m qc] 60)) (below_one (wo3.alloc (.cells #[.bool neg, .string X, .slice Q m qc] 60)) (.cells #[.bool neg, .string X, .slice none 0 0] 60)) (by simp)
                have hbwa := below_two wo3 (.cells #[.bool neg, .string X, .slice Q m qc] 60) (.cells #[.bool neg, .string X, .slice none 0 0] 60)
                have hgs : (wo3.alloc (.cells #[.bool neg, .string X, .slice Q m qc] 60)).heap.size = wo3.heap.size + 1 := by simp
                rw [hgs] at hS
                have HS4 := hid hS
                have HR4 := hid hR
                have HB4 := hid hbwa
                obtain ⟨s0, s1, s2⟩ := rcell3 hR
                have slt := lt_of_block hR
                clear hgs hbwa d0 d1 d2 hS hR
                have HBO := hid hbo
                clear hbo
                generalize ((wo3.alloc (.cells #[.bool neg, .string X, .slice Q m qc] 60)).alloc (.cells #[.bool neg, .string X, .slice none 0 0] 60)) = wa at *
                go_wp2
                clear s0 s1 s2 slt
                go_loopw [65] (fun i wr => ∃ (l : Nat) (y : Value), l ≤ m ∧ i = .int .i64 l ∧ Hid (wr.heap[(wo3.heap.size + 1)]? = some (.cells #[.bool neg, .string X, y] 60 (0, 0))) ∧ Hid (wr.ownsRow (wo3.heap.size + 1 + 1) 56 4 y l (((ts.take l).map (mapT f)).flatMap cellsT)) ∧ Hid (wr.heap[wo3.heap.size]? = some (.cells #[.bool neg, .string X, .slice Q m qc] 60 (0, 0))) ∧ Hid (Below wo3.heap.size wo3 wr)) (fun i _ => m - (intOf i).toNat)
                case atStart => exact ⟨0, .slice none 0 0, by omega, rfl, HS4, hid (World.ownsRow_nil _ _ _ _), HR4, HB4⟩
                case round =>
                  clear HS4 HR4 HB4
                  obtain ⟨l, u4, hl, rfl, HS4, HU4, HR4, HB4⟩ := hrel
                  have hb4 := HBO.out.trans (HB4.out.mono HBO.out.size)
                  have hlt4 := lt_of_block HS4.out
                  by_cases hlm : l < m
                  · have hll : l < ts.length := by rw [HM.out]; exact hlm
                    obtain ⟨b3, o3, rfl, hc3⟩ := HT.out (by omega)
                    obtain ⟨d0, d1, d2, d3⟩ := hc3 l hll
                    replace d0 := cell_keep hb4 d0
                    replace d1 := cell_keep hb4 d1
                    replace d2 := cell_keep hb4 d2
                    replace d3 := cell_keep hb4 d3
                    have hwv := (HWT.out ts[l] (List.getElem_mem hll)).v
                    have htk : ((ts.take (l + 1)).map (mapT f)).flatMap cellsT = ((ts.take l).map (mapT f)).flatMap cellsT ++ cellsT (mapT f ts[l]) := by rw [List.take_succ_eq_append_getElem hll, List.map_append, List.flatMap_append]; simp
                    obtain ⟨t, et⟩ : ∃ t, ts[l] = t := ⟨_, rfl⟩
                    rw [et] at d0 d1 d2 d3 hwv htk
                    obtain ⟨v, ⟨ck, cn, cs⟩⟩ := t
                    simp only [mapT, cellsT] at d0 d1 d2 d3 hwv htk
                    obtain ⟨Z, hZ, hZd, _⟩ := nm v
                    rw [hZ] at d0
                    have hZs := maxLen_of hZd hwv
                    obtain ⟨FZ, hFZ⟩ : ∃ X : ByteArray, (⟨(f Z.data.toList).toArray⟩ : ByteArray) = X := ⟨_, rfl⟩
                    have hCZ : ∀ W, Below w.heap.size w W → Hid (Calls Tryd.prog 44 #[.string Z, .pointer (some ⟨gm, 0, none⟩)] W fun e w' => e = .returned (.string FZ) ∧ Below W.heap.size W w') := fun W h => hid (by have := (HRN.out W Z h hZs).out; rw [hFZ] at this; exact this)
                    have HCZ := hid hCZ
                    clear hCZ
                    rw [← hZd, hFZ] at htk
                    have HTK := hid htk
                    clear htk hZ hZd hFZ et hc3 hwv
                    have h0 := hid (heap_alloc_new wr (.cells #[.string Z, .int .i64 ck, .int .i64 cn, .string cs] 56))
                    have h1 := below_one wr (.cells #[.string Z, .int .i64 ck, .int .i64 cn, .string cs] 56)
                    have hg2 : (wr.alloc (.cells #[.string Z, .int .i64 ck, .int .i64 cn, .string cs] 56)).heap.size = wr.heap.size + 1 := by simp
                    have HBX := hid (res_keep' HS4.out h1 (lt_of_block HS4.out))
                    have HU := hid (own_belowS HU4.out h1)
                    have HBE := hid (hb4.trans (h1.mono hb4.size))
                    have HB5 := hid (HB4.out.trans (h1.mono HB4.out.size))
                    have HR5 := hid (res_keep' HR4.out h1 (lt_of_block HR4.out))
                    clear h1 HS4 HU4 HR4 HB4
                    go_upto_region 18 with fail
                    clear d0 d1 d2 d3 hb4
                    generalize wr.heap.size = g15 at *
                    generalize wr.alloc (.cells #[.string Z, .int .i64 ck, .int .i64 cn, .string cs] 56) = wa at *
                    have C0 := hid (rcell (o := 0) h0.out rfl)
                    have C1 := hid (rcell (o := 1) h0.out rfl)
                    have C2 := hid (rcell (o := 2) h0.out rfl)
                    have C3 := hid (rcell (o := 3) h0.out rfl)
                    have HSL := hid (lt_of_block h0.out)
                    have hbw : wo3.heap.size + 1 + 1 ≤ wa.heap.size := by omega
                    have HBXL := hid (show wo3.heap.size + 1 < wo3.heap.size + 1 + 1 by omega)
                    clear h0 hg2
                    obtain ⟨XS, hXS⟩ : ∃ xl : List Value, ((ts.take l).map (mapT f)).flatMap cellsT = xl := ⟨_, rfl⟩
                    rw [hXS] at HU HTK
                    have HXS := hid hXS
                    clear hXS
                    refine wp_region_inv2 (fun d ac w9 => ∃ x69 x70 x71 x72 x73 x74 x75 x76 x77 x78 x79 x80 : Value, ac = { tmps := List.toArray ((Value.agg #[Value.slice A hd.length ch, Value.int IntKind.i64 ga, Value.string Y, Value.slice (some { block := bb, off := o }) rs.length cr, Value.slice O os.length co]) :: (Value.func (Fn.func 44) #[] #[Value.pointer (some { block := gm, off := 0 })]) :: (Value.pointer (some { block := w.heap.size, off := 0 })) :: undef :: (Value.pointer (some { block := w.heap.size + 1, off := 0 })) :: (Value.pointer (some { block := g5, off := 0 })) :: undef :: u7 :: undef :: (Value.pointer (some { block := wo.heap.size, off := 0 })) :: (Value.pointer (some { block := wo.heap.size + 1, off := 0 })) :: undef :: (Value.pointer (some { block := wo3.heap.size, off := 0 })) :: (Value.pointer (some { block := wo3.heap.size + 1, off := 0 })) :: undef :: (Value.pointer (some { block := g15, off := 0 })) :: undef :: u17 :: undef :: undef :: x20 :: x21 :: x22 :: x23 :: x24 :: x25 :: x26 :: (Value.pointer (some { block := w.heap.size, off := 0 })) :: (Value.slice A hd.length ch) :: (Value.int IntKind.i64 ↑hd.length) :: (Value.int IntKind.i64 ↑k1) :: (Value.bool false) :: u32 :: u33 :: u34 :: u35 :: u36 :: u37 :: u38 :: u39 :: u40 :: u41 :: u42 :: (Value.pointer (some { block := w.heap.size, off := 3 })) :: (Value.slice (some { block := bb, off := o }) rs.length cr) :: (Value.int IntKind.i64 ↑rs.length) :: (Value.int IntKind.i64 ↑k) :: (Value.bool true) :: (Value.pointer (some { block := bb, off := o + k * 2 })) :: (Value.agg #[Value.slice (some { block := b2, off := o2 }) n ct, Value.slice T2 n2 ct2]) :: (Value.pointer (some { block := wo.heap.size, off := 0 })) :: (Value.slice (some { block := b2, off := o2 }) n ct) :: (Value.int IntKind.i64 ↑n) :: (Value.int IntKind.i64 ↑j) :: (Value.bool true) :: (Value.pointer (some { block := b2, off := o2 + j * 3 })) :: (Value.agg #[Value.bool neg, Value.string X, Value.slice (some { block := b3, off := o3 }) m qc]) :: (Value.pointer (some { block := wo3.heap.size, off := 0 })) :: (Value.bool neg) :: (Value.pointer (some { block := wo3.heap.size, off := 1 })) :: (Value.string X) :: (Value.agg #[Value.bool neg, Value.string X, Value.slice none 0 0]) :: (Value.pointer (some { block := wo3.heap.size, off := 2 })) :: (Value.slice (some { block := b3, off := o3 }) m qc) :: (Value.int IntKind.i64 ↑m) :: (Value.int IntKind.i64 ↑l) :: (Value.bool true) :: (Value.pointer (some { block := b3, off := o3 + l * 4 })) :: (Value.agg #[Value.string Z, Value.int IntKind.i64 ck, Value.int IntKind.i64 cn, Value.string cs]) :: x69 :: x70 :: x71 :: x72 :: x73 :: x74 :: x75 :: x76 :: x77 :: x78 :: x79 :: x80 :: u81 :: u82 :: u83 :: u84 :: u85 :: u86 :: u87 :: u88 :: u89 :: u90 :: u91 :: u92 :: u93 :: u94 :: u95 :: u96 :: u97 :: u98 :: u99 :: u100 :: u101 :: u102 :: u103 :: u104 :: u105 :: u106 :: u107 :: u108 :: u109 :: u110 :: u111 :: u112 :: u113 :: u114 :: u115 :: u116 :: u117 :: undef :: undef :: undef :: undef :: undef :: undef :: undef :: undef :: undef :: undef :: undef :: undef :: undef :: undef :: undef :: undef :: undef :: undef :: undef :: undef :: undef :: []), defers := [] } ∧ ((d 12 = false ∧ Hid (Below (wo3.heap.size + 1 + 1) wa w9) ∧ Hid (d 10 = false → Below wa.heap.size wa w9) ∧ Hid (d 0 = true → x69 = .pointer (some ⟨wo3.heap.size + 1, 2, none⟩)) ∧ Hid (d 1 = true → x70 = u4) ∧ Hid (d 2 = true → x71 = .func (.func 44) #[] #[.pointer (some ⟨gm, 0, none⟩)]) ∧ Hid (d 3 = true → x72 = .pointer (some ⟨g15, 0, none⟩)) ∧ Hid (d 4 = true → x73 = .string Z) ∧ Hid (d 5 = true → x74 = .string FZ) ∧ Hid (d 6 = true → x75 = .pointer (some ⟨g15, 1, none⟩)) ∧ Hid (d 7 = true → x76 = .agg #[.int .i64 ck, .int .i64 cn, .string cs]) ∧ Hid (d 8 = true → x77 = .agg #[.string FZ, .int .i64 ck, .int .i64 cn, .string cs]) ∧ Hid (d 9 = true → ∃ g, x78 = .slice (some ⟨g, 0, none⟩) 1 1 ∧ (d 10 = false → w9.heap[g]? = some (.cells #[.string FZ, .int .i64 ck, .int .i64 cn, .string cs] 56 (0, 0)))) ∧ Hid (d 10 = true → w9.ownsRow (wo3.heap.size + 1 + 1) 56 4 x79 (l + 1) (XS ++ [.string FZ, .int .i64 ck, .int .i64 cn, .string cs])) ∧ Hid (d 11 = true → x80 = .pointer (some ⟨wo3.heap.size + 1, 2, none⟩))) ∨ (d 12 = true ∧ Hid (∃ v8, w9.heap[wo3.heap.size + 1]? = some (.cells #[.bool neg, .string X, v8] 60 (0, 0)) ∧ w9.ownsRow (wo3.heap.size + 1 + 1) 56 4 v8 (l + 1) (XS ++ [.string FZ, .int .i64 ck, .int .i64 cn, .string cs]) ∧ Below (wo3.heap.size + 1) wa w9)))) (by kernel_rfl) (by kernel_rfl) ?h0 ?hst ?fin
                    case h0 => exact ⟨_, _, _, _, _, _, _, _, _, _, _, _, rfl, .inl ⟨rfl, hid (Below.drew (Below.refl _ _)), hid (fun _ => Below.drew (Below.refl _ _)), hid (fun h => absurd h (by decide)), hid (fun h => absurd h (by decide)), hid (fun h => absurd h (by decide)), hid (fun h => absurd h (by decide)), hid (fun h => absurd h (by decide)), hid (fun h => absurd h (by decide)), hid (fun h => absurd h (by decide)), hid (fun h => absurd h (by decide)), hid (fun h => absurd h (by decide)), hid (fun h => absurd h (by decide)), hid (fun h => absurd h (by decide)), hid (fun h => absurd h (by decide))⟩⟩
                    case hst =>
                      refine ⟨?_, ?_, ?_, ?_, ?_, ?_, ?_, ?_, ?_, ?_, ?_, ?_, ?_, trivial⟩
                      · rintro d ac w9 ⟨x69, x70, x71, x72, x73, x74, x75, x76, x77, x78, x79, x80, rfl, hI⟩ hcl hdk haft
                        rcases hI with ⟨hdf, HB, FA, f0, f1, f2, f3, f4, f5, f6, f7, f8, f9, f10, f11⟩ | ⟨hdl, _⟩
                        rotate_left
                        · exact absurd ((hcl 1 _ rfl (hcl 10 _ rfl (hcl 12 _ rfl hdl ⟨10, .data⟩ (by simp) rfl) ⟨1, .data⟩ (by simp) rfl) ⟨0, .data⟩ (by simp) rfl).symm.trans hdk) (by decide)
                        have hap : d 10 = false := by
                          cases hh : d 10 with
                          | false => rfl
                          | true => exact absurd ((hcl 1 _ rfl (hcl 10 _ rfl hh ⟨1, .data⟩ (by simp) rfl) ⟨0, .data⟩ (by simp) rfl).symm.trans hdk) (by decide)
                        have HW := hid (FA.out hap)
                        have hdz := hid hdf
                        clear  hdk haft hcl hdf hap
                        go_wp2
                        exact rthenK_n ⟨_, _, _, _, _, _, _, _, _, _, _, _, rfl, .inl ⟨rkd rfl hdz, hid (HB.out.trans ((Below.refl w9.heap.size w9).mono (Nat.le_trans hbw HB.out.size))), hid (fun h => (FA.out (runupd rfl h)).trans ((Below.refl w9.heap.size w9).mono (FA.out (runupd rfl h)).size)), rnf rfl, rkf rfl f1 (fun h => by first | exact h | exact rfl), rkf rfl f2 (fun h => by first | exact h | exact rfl), rkf rfl f3 (fun h => by first | exact h | exact rfl), rkf rfl f4 (fun h => by first | exact h | exact rfl), rkf rfl f5 (fun h => by first | exact h | exact rfl), rkf rfl f6 (fun h => by first | exact h | exact rfl), rkf rfl f7 (fun h => by first | exact h | exact rfl), rkf rfl f8 (fun h => by first | exact h | exact rfl), rkf rfl f9 (fun h => (by obtain ⟨g, e1, e2⟩ := h; exact ⟨g, e1, fun h15 => res_keep' (e2 (runupd rfl h15)) (Below.refl w9.heap.size w9) (lt_of_block (e2 (runupd rfl h15)))⟩)), rkf rfl f10 (fun h => own_belowS h (Below.refl w9.heap.size w9)), rkf rfl f11 (fun h => by first | exact h | exact rfl)⟩⟩
                      · rintro d ac w9 ⟨x69, x70, x71, x72, x73, x74, x75, x76, x77, x78, x79, x80, rfl, hI⟩ hcl hdk haft
                        rcases hI with ⟨hdf, HB, FA, f0, f1, f2, f3, f4, f5, f6, f7, f8, f9, f10, f11⟩ | ⟨hdl, _⟩
                        rotate_left
                        · exact absurd ((hcl 10 _ rfl (hcl 12 _ rfl hdl ⟨10, .data⟩ (by simp) rfl) ⟨1, .data⟩ (by simp) rfl).symm.trans hdk) (by decide)
                        have h0 := haft ⟨0, .data⟩ (by simp) rfl
                        have hap : d 10 = false := by
                          cases hh : d 10 with
                          | false => rfl
                          | true => exact absurd ((hcl 10 _ rfl hh ⟨1, .data⟩ (by simp) rfl).symm.trans hdk) (by decide)
                        have HW := hid (FA.out hap)
                        obtain rfl := f0.out h0
                        have hdz := hid hdf
                        have hp9 := res_keep' HBX.out HB.out HBXL.out
                        have r0 := rcell (o := 2) (v := u4) hp9 rfl
                        have rl := lt_of_block hp9
                        clear hp9
                        clear h0 hdk haft hcl hdf hap
                        go_wp2
                        exact rthenK_n ⟨_, _, _, _, _, _, _, _, _, _, _, _, rfl, .inl ⟨rkd rfl hdz, hid (HB.out.trans ((Below.refl w9.heap.size w9).mono (Nat.le_trans hbw HB.out.size))), hid (fun h => (FA.out (runupd rfl h)).trans ((Below.refl w9.heap.size w9).mono (FA.out (runupd rfl h)).size)), rkf rfl f0 (fun h => by first | exact h | exact rfl), rnf rfl, rkf rfl f2 (fun h => by first | exact h | exact rfl), rkf rfl f3 (fun h => by first | exact h | exact rfl), rkf rfl f4 (fun h => by first | exact h | exact rfl), rkf rfl f5 (fun h => by first | exact h | exact rfl), rkf rfl f6 (fun h => by first | exact h | exact rfl), rkf rfl f7 (fun h => by first | exact h | exact rfl), rkf rfl f8 (fun h => by first | exact h | exact rfl), rkf rfl f9 (fun h => (by obtain ⟨g, e1, e2⟩ := h; exact ⟨g, e1, fun h15 => res_keep' (e2 (runupd rfl h15)) (Below.refl w9.heap.size w9) (lt_of_block (e2 (runupd rfl h15)))⟩)), rkf rfl f10 (fun h => own_belowS h (Below.refl w9.heap.size w9)), rkf rfl f11 (fun h => by first | exact h | exact rfl)⟩⟩
                      · rintro d ac w9 ⟨x69, x70, x71, x72, x73, x74, x75, x76, x77, x78, x79, x80, rfl, hI⟩ hcl hdk haft
                        rcases hI with ⟨hdf, HB, FA, f0, f1, f2, f3, f4, f5, f6, f7, f8, f9, f10, f11⟩ | ⟨hdl, _⟩
                        rotate_left
                        · exact absurd ((hcl 5 _ rfl (hcl 8 _ rfl (hcl 9 _ rfl (hcl 10 _ rfl (hcl 12 _ rfl hdl ⟨10, .data⟩ (by simp) rfl) ⟨9, .data⟩ (by simp) rfl) ⟨8, .data⟩ (by simp) rfl) ⟨5, .data⟩ (by simp) rfl) ⟨2, .data⟩ (by simp) rfl).symm.trans hdk) (by decide)
                        have hap : d 10 = false := by
                          cases hh : d 10 with
                          | false => rfl
                          | true => exact absurd ((hcl 5 _ rfl (hcl 8 _ rfl (hcl 9 _ rfl (hcl 10 _ rfl hh ⟨9, .data⟩ (by simp) rfl) ⟨8, .data⟩ (by simp) rfl) ⟨5, .data⟩ (by simp) rfl) ⟨2, .data⟩ (by simp) rfl).symm.trans hdk) (by decide)
                        have HW := hid (FA.out hap)
                        have hdz := hid hdf
                        clear  hdk haft hcl hdf hap
                        go_wp2
                        exact rthenK_n ⟨_, _, _, _, _, _, _, _, _, _, _, _, rfl, .inl ⟨rkd rfl hdz, hid (HB.out.trans ((Below.refl w9.heap.size w9).mono (Nat.le_trans hbw HB.out.size))), hid (fun h => (FA.out (runupd rfl h)).trans ((Below.refl w9.heap.size w9).mono (FA.out (runupd rfl h)).size)), rkf rfl f0 (fun h => by first | exact h | exact rfl), rkf rfl f1 (fun h => by first | exact h | exact rfl), rnf rfl, rkf rfl f3 (fun h => by first | exact h | exact rfl), rkf rfl f4 (fun h => by first | exact h | exact rfl), rkf rfl f5 (fun h => by first | exact h | exact rfl), rkf rfl f6 (fun h => by first | exact h | exact rfl), rkf rfl f7 (fun h => by first | exact h | exact rfl), rkf rfl f8 (fun h => by first | exact h | exact rfl), rkf rfl f9 (fun h => (by obtain ⟨g, e1, e2⟩ := h; exact ⟨g, e1, fun h15 => res_keep' (e2 (runupd rfl h15)) (Below.refl w9.heap.size w9) (lt_of_block (e2 (runupd rfl h15)))⟩)), rkf rfl f10 (fun h => own_belowS h (Below.refl w9.heap.size w9)), rkf rfl f11 (fun h => by first | exact h | exact rfl)⟩⟩
                      · rintro d ac w9 ⟨x69, x70, x71, x72, x73, x74, x75, x76, x77, x78, x79, x80, rfl, hI⟩ hcl hdk haft
                        rcases hI with ⟨hdf, HB, FA, f0, f1, f2, f3, f4, f5, f6, f7, f8, f9, f10, f11⟩ | ⟨hdl, _⟩
                        rotate_left
                        · exact absurd ((hcl 4 _ rfl (hcl 5 _ rfl (hcl 8 _ rfl (hcl 9 _ rfl (hcl 10 _ rfl (hcl 12 _ rfl hdl ⟨10, .data⟩ (by simp) rfl) ⟨9, .data⟩ (by simp) rfl) ⟨8, .data⟩ (by simp) rfl) ⟨5, .data⟩ (by simp) rfl) ⟨4, .data⟩ (by simp) rfl) ⟨3, .data⟩ (by simp) rfl).symm.trans hdk) (by decide)
                        have hap : d 10 = false := by
                          cases hh : d 10 with
                          | false => rfl
                          | true => exact absurd ((hcl 4 _ rfl (hcl 5 _ rfl (hcl 8 _ rfl (hcl 9 _ rfl (hcl 10 _ rfl hh ⟨9, .data⟩ (by simp) rfl) ⟨8, .data⟩ (by simp) rfl) ⟨5, .data⟩ (by simp) rfl) ⟨4, .data⟩ (by simp) rfl) ⟨3, .data⟩ (by simp) rfl).symm.trans hdk) (by decide)
                        have HW := hid (FA.out hap)
                        have hdz := hid hdf
                        clear  hdk haft hcl hdf hap
                        go_wp2
                        exact rthenK_n ⟨_, _, _, _, _, _, _, _, _, _, _, _, rfl, .inl ⟨rkd rfl hdz, hid (HB.out.trans ((Below.refl w9.heap.size w9).mono (Nat.le_trans hbw HB.out.size))), hid (fun h => (FA.out (runupd rfl h)).trans ((Below.refl w9.heap.size w9).mono (FA.out (runupd rfl h)).size)), rkf rfl f0 (fun h => by first | exact h | exact rfl), rkf rfl f1 (fun h => by first | exact h | exact rfl), rkf rfl f2 (fun h => by first | exact h | exact rfl), rnf rfl, rkf rfl f4 (fun h => by first | exact h | exact rfl), rkf rfl f5 (fun h => by first | exact h | exact rfl), rkf rfl f6 (fun h => by first | exact h | exact rfl), rkf rfl f7 (fun h => by first | exact h | exact rfl), rkf rfl f8 (fun h => by first | exact h | exact rfl), rkf rfl f9 (fun h => (by obtain ⟨g, e1, e2⟩ := h; exact ⟨g, e1, fun h15 => res_keep' (e2 (runupd rfl h15)) (Below.refl w9.heap.size w9) (lt_of_block (e2 (runupd rfl h15)))⟩)), rkf rfl f10 (fun h => own_belowS h (Below.refl w9.heap.size w9)), rkf rfl f11 (fun h => by first | exact h | exact rfl)⟩⟩
                      · rintro d ac w9 ⟨x69, x70, x71, x72, x73, x74, x75, x76, x77, x78, x79, x80, rfl, hI⟩ hcl hdk haft
                        rcases hI with ⟨hdf, HB, FA, f0, f1, f2, f3, f4, f5, f6, f7, f8, f9, f10, f11⟩ | ⟨hdl, _⟩
                        rotate_left
                        · exact absurd ((hcl 5 _ rfl (hcl 8 _ rfl (hcl 9 _ rfl (hcl 10 _ rfl (hcl 12 _ rfl hdl ⟨10, .data⟩ (by simp) rfl) ⟨9, .data⟩ (by simp) rfl) ⟨8, .data⟩ (by simp) rfl) ⟨5, .data⟩ (by simp) rfl) ⟨4, .data⟩ (by simp) rfl).symm.trans hdk) (by decide)
                        have h3 := haft ⟨3, .data⟩ (by simp) rfl
                        have hap : d 10 = false := by
                          cases hh : d 10 with
                          | false => rfl
                          | true => exact absurd ((hcl 5 _ rfl (hcl 8 _ rfl (hcl 9 _ rfl (hcl 10 _ rfl hh ⟨9, .data⟩ (by simp) rfl) ⟨8, .data⟩ (by simp) rfl) ⟨5, .data⟩ (by simp) rfl) ⟨4, .data⟩ (by simp) rfl).symm.trans hdk) (by decide)
                        have HW := hid (FA.out hap)
                        obtain rfl := f3.out h3
                        have hdz := hid hdf
                        have c09 := cell_keep HW.out C0.out
                        have sl9 : g15 < w9.heap.size := Nat.lt_of_lt_of_le HSL.out HW.out.size
                        clear h3 hdk haft hcl hdf hap
                        go_wp2
                        exact rthenK_n ⟨_, _, _, _, _, _, _, _, _, _, _, _, rfl, .inl ⟨rkd rfl hdz, hid (HB.out.trans ((Below.refl w9.heap.size w9).mono (Nat.le_trans hbw HB.out.size))), hid (fun h => (FA.out (runupd rfl h)).trans ((Below.refl w9.heap.size w9).mono (FA.out (runupd rfl h)).size)), rkf rfl f0 (fun h => by first | exact h | exact rfl), rkf rfl f1 (fun h => by first | exact h | exact rfl), rkf rfl f2 (fun h => by first | exact h | exact rfl), rkf rfl f3 (fun h => by first | exact h | exact rfl), rnf rfl, rkf rfl f5 (fun h => by first | exact h | exact rfl), rkf rfl f6 (fun h => by first | exact h | exact rfl), rkf rfl f7 (fun h => by first | exact h | exact rfl), rkf rfl f8 (fun h => by first | exact h | exact rfl), rkf rfl f9 (fun h => (by obtain ⟨g, e1, e2⟩ := h; exact ⟨g, e1, fun h15 => res_keep' (e2 (runupd rfl h15)) (Below.refl w9.heap.size w9) (lt_of_block (e2 (runupd rfl h15)))⟩)), rkf rfl f10 (fun h => own_belowS h (Below.refl w9.heap.size w9)), rkf rfl f11 (fun h => by first | exact h | exact rfl)⟩⟩
                      · rintro d ac w9 ⟨x69, x70, x71, x72, x73, x74, x75, x76, x77, x78, x79, x80, rfl, hI⟩ hcl hdk haft
                        rcases hI with ⟨hdf, HB, FA, f0, f1, f2, f3, f4, f5, f6, f7, f8, f9, f10, f11⟩ | ⟨hdl, _⟩
                        rotate_left
                        · exact absurd ((hcl 8 _ rfl (hcl 9 _ rfl (hcl 10 _ rfl (hcl 12 _ rfl hdl ⟨10, .data⟩ (by simp) rfl) ⟨9, .data⟩ (by simp) rfl) ⟨8, .data⟩ (by simp) rfl) ⟨5, .data⟩ (by simp) rfl).symm.trans hdk) (by decide)
                        have h2 := haft ⟨2, .data⟩ (by simp) rfl
                        have h4 := haft ⟨4, .data⟩ (by simp) rfl
                        have hap : d 10 = false := by
                          cases hh : d 10 with
                          | false => rfl
                          | true => exact absurd ((hcl 8 _ rfl (hcl 9 _ rfl (hcl 10 _ rfl hh ⟨9, .data⟩ (by simp) rfl) ⟨8, .data⟩ (by simp) rfl) ⟨5, .data⟩ (by simp) rfl).symm.trans hdk) (by decide)
                        have HW := hid (FA.out hap)
                        obtain rfl := f2.out h2
                        obtain rfl := f4.out h4
                        have hdz := hid hdf
                        clear h2 h4 hdk haft hcl hdf hap
                        go_wp2_with fail
                        refine (HCZ.out w9 (HBE.out.trans (HW.out.mono HBE.out.size))).out.mono ?_
                        rintro e w8 ⟨rfl, b8⟩
                        go_wp2
                        exact rthenK_n ⟨_, _, _, _, _, _, _, _, _, _, _, _, rfl, .inl ⟨rkd rfl hdz, hid (HB.out.trans (b8.mono (Nat.le_trans hbw HB.out.size))), hid (fun h => (FA.out (runupd rfl h)).trans (b8.mono (FA.out (runupd rfl h)).size)), rkf rfl f0 (fun h => by first | exact h | exact rfl), rkf rfl f1 (fun h => by first | exact h | exact rfl), rkf rfl f2 (fun h => by first | exact h | exact rfl), rkf rfl f3 (fun h => by first | exact h | exact rfl), rkf rfl f4 (fun h => by first | exact h | exact rfl), rnf rfl, rkf rfl f6 (fun h => by first | exact h | exact rfl), rkf rfl f7 (fun h => by first | exact h | exact rfl), rkf rfl f8 (fun h => by first | exact h | exact rfl), rkf rfl f9 (fun h => (by obtain ⟨g, e1, e2⟩ := h; exact ⟨g, e1, fun h15 => res_keep' (e2 (runupd rfl h15)) b8 (lt_of_block (e2 (runupd rfl h15)))⟩)), rkf rfl f10 (fun h => own_belowS h b8), rkf rfl f11 (fun h => by first | exact h | exact rfl)⟩⟩
                      · rintro d ac w9 ⟨x69, x70, x71, x72, x73, x74, x75, x76, x77, x78, x79, x80, rfl, hI⟩ hcl hdk haft
                        rcases hI with ⟨hdf, HB, FA, f0, f1, f2, f3, f4, f5, f6, f7, f8, f9, f10, f11⟩ | ⟨hdl, _⟩
                        rotate_left
                        · exact absurd ((hcl 7 _ rfl (hcl 8 _ rfl (hcl 9 _ rfl (hcl 10 _ rfl (hcl 12 _ rfl hdl ⟨10, .data⟩ (by simp) rfl) ⟨9, .data⟩ (by simp) rfl) ⟨8, .data⟩ (by simp) rfl) ⟨7, .data⟩ (by simp) rfl) ⟨6, .data⟩ (by simp) rfl).symm.trans hdk) (by decide)
                        have hap : d 10 = false := by
                          cases hh : d 10 with
                          | false => rfl
                          | true => exact absurd ((hcl 7 _ rfl (hcl 8 _ rfl (hcl 9 _ rfl (hcl 10 _ rfl hh ⟨9, .data⟩ (by simp) rfl) ⟨8, .data⟩ (by simp) rfl) ⟨7, .data⟩ (by simp) rfl) ⟨6, .data⟩ (by simp) rfl).symm.trans hdk) (by decide)
                        have HW := hid (FA.out hap)
                        have hdz := hid hdf
                        clear  hdk haft hcl hdf hap
                        go_wp2
                        exact rthenK_n ⟨_, _, _, _, _, _, _, _, _, _, _, _, rfl, .inl ⟨rkd rfl hdz, hid (HB.out.trans ((Below.refl w9.heap.size w9).mono (Nat.le_trans hbw HB.out.size))), hid (fun h => (FA.out (runupd rfl h)).trans ((Below.refl w9.heap.size w9).mono (FA.out (runupd rfl h)).size)), rkf rfl f0 (fun h => by first | exact h | exact rfl), rkf rfl f1 (fun h => by first | exact h | exact rfl), rkf rfl f2 (fun h => by first | exact h | exact rfl), rkf rfl f3 (fun h => by first | exact h | exact rfl), rkf rfl f4 (fun h => by first | exact h | exact rfl), rkf rfl f5 (fun h => by first | exact h | exact rfl), rnf rfl, rkf rfl f7 (fun h => by first | exact h | exact rfl), rkf rfl f8 (fun h => by first | exact h | exact rfl), rkf rfl f9 (fun h => (by obtain ⟨g, e1, e2⟩ := h; exact ⟨g, e1, fun h15 => res_keep' (e2 (runupd rfl h15)) (Below.refl w9.heap.size w9) (lt_of_block (e2 (runupd rfl h15)))⟩)), rkf rfl f10 (fun h => own_belowS h (Below.refl w9.heap.size w9)), rkf rfl f11 (fun h => by first | exact h | exact rfl)⟩⟩
                      · rintro d ac w9 ⟨x69, x70, x71, x72, x73, x74, x75, x76, x77, x78, x79, x80, rfl, hI⟩ hcl hdk haft
                        rcases hI with ⟨hdf, HB, FA, f0, f1, f2, f3, f4, f5, f6, f7, f8, f9, f10, f11⟩ | ⟨hdl, _⟩
                        rotate_left
                        · exact absurd ((hcl 8 _ rfl (hcl 9 _ rfl (hcl 10 _ rfl (hcl 12 _ rfl hdl ⟨10, .data⟩ (by simp) rfl) ⟨9, .data⟩ (by simp) rfl) ⟨8, .data⟩ (by simp) rfl) ⟨7, .data⟩ (by simp) rfl).symm.trans hdk) (by decide)
                        have h6 := haft ⟨6, .data⟩ (by simp) rfl
                        have hap : d 10 = false := by
                          cases hh : d 10 with
                          | false => rfl
                          | true => exact absurd ((hcl 8 _ rfl (hcl 9 _ rfl (hcl 10 _ rfl hh ⟨9, .data⟩ (by simp) rfl) ⟨8, .data⟩ (by simp) rfl) ⟨7, .data⟩ (by simp) rfl).symm.trans hdk) (by decide)
                        have HW := hid (FA.out hap)
                        obtain rfl := f6.out h6
                        have hdz := hid hdf
                        have c19 := cell_keep HW.out C1.out
                        have c29 := cell_keep HW.out C2.out
                        have c39 := cell_keep HW.out C3.out
                        have sl9 : g15 < w9.heap.size := Nat.lt_of_lt_of_le HSL.out HW.out.size
                        clear h6 hdk haft hcl hdf hap
                        go_wp2
                        exact rthenK_n ⟨_, _, _, _, _, _, _, _, _, _, _, _, rfl, .inl ⟨rkd rfl hdz, hid (HB.out.trans ((Below.refl w9.heap.size w9).mono (Nat.le_trans hbw HB.out.size))), hid (fun h => (FA.out (runupd rfl h)).trans ((Below.refl w9.heap.size w9).mono (FA.out (runupd rfl h)).size)), rkf rfl f0 (fun h => by first | exact h | exact rfl), rkf rfl f1 (fun h => by first | exact h | exact rfl), rkf rfl f2 (fun h => by first | exact h | exact rfl), rkf rfl f3 (fun h => by first | exact h | exact rfl), rkf rfl f4 (fun h => by first | exact h | exact rfl), rkf rfl f5 (fun h => by first | exact h | exact rfl), rkf rfl f6 (fun h => by first | exact h | exact rfl), rnf rfl, rkf rfl f8 (fun h => by first | exact h | exact rfl), rkf rfl f9 (fun h => (by obtain ⟨g, e1, e2⟩ := h; exact ⟨g, e1, fun h15 => res_keep' (e2 (runupd rfl h15)) (Below.refl w9.heap.size w9) (lt_of_block (e2 (runupd rfl h15)))⟩)), rkf rfl f10 (fun h => own_belowS h (Below.refl w9.heap.size w9)), rkf rfl f11 (fun h => by first | exact h | exact rfl)⟩⟩
                      · rintro d ac w9 ⟨x69, x70, x71, x72, x73, x74, x75, x76, x77, x78, x79, x80, rfl, hI⟩ hcl hdk haft
                        rcases hI with ⟨hdf, HB, FA, f0, f1, f2, f3, f4, f5, f6, f7, f8, f9, f10, f11⟩ | ⟨hdl, _⟩
                        rotate_left
                        · exact absurd ((hcl 9 _ rfl (hcl 10 _ rfl (hcl 12 _ rfl hdl ⟨10, .data⟩ (by simp) rfl) ⟨9, .data⟩ (by simp) rfl) ⟨8, .data⟩ (by simp) rfl).symm.trans hdk) (by decide)
                        have h5 := haft ⟨5, .data⟩ (by simp) rfl
                        have h7 := haft ⟨7, .data⟩ (by simp) rfl
                        have hap : d 10 = false := by
                          cases hh : d 10 with
                          | false => rfl
                          | true => exact absurd ((hcl 9 _ rfl (hcl 10 _ rfl hh ⟨9, .data⟩ (by simp) rfl) ⟨8, .data⟩ (by simp) rfl).symm.trans hdk) (by decide)
                        have HW := hid (FA.out hap)
                        obtain rfl := f5.out h5
                        obtain rfl := f7.out h7
                        have hdz := hid hdf
                        clear h5 h7 hdk haft hcl hdf hap
                        go_wp2
                        exact rthenK_n ⟨_, _, _, _, _, _, _, _, _, _, _, _, rfl, .inl ⟨rkd rfl hdz, hid (HB.out.trans ((Below.refl w9.heap.size w9).mono (Nat.le_trans hbw HB.out.size))), hid (fun h => (FA.out (runupd rfl h)).trans ((Below.refl w9.heap.size w9).mono (FA.out (runupd rfl h)).size)), rkf rfl f0 (fun h => by first | exact h | exact rfl), rkf rfl f1 (fun h => by first | exact h | exact rfl), rkf rfl f2 (fun h => by first | exact h | exact rfl), rkf rfl f3 (fun h => by first | exact h | exact rfl), rkf rfl f4 (fun h => by first | exact h | exact rfl), rkf rfl f5 (fun h => by first | exact h | exact rfl), rkf rfl f6 (fun h => by first | exact h | exact rfl), rkf rfl f7 (fun h => by first | exact h | exact rfl), rnf rfl, rkf rfl f9 (fun h => (by obtain ⟨g, e1, e2⟩ := h; exact ⟨g, e1, fun h15 => res_keep' (e2 (runupd rfl h15)) (Below.refl w9.heap.size w9) (lt_of_block (e2 (runupd rfl h15)))⟩)), rkf rfl f10 (fun h => own_belowS h (Below.refl w9.heap.size w9)), rkf rfl f11 (fun h => by first | exact h | exact rfl)⟩⟩
                      · rintro d ac w9 ⟨x69, x70, x71, x72, x73, x74, x75, x76, x77, x78, x79, x80, rfl, hI⟩ hcl hdk haft
                        rcases hI with ⟨hdf, HB, FA, f0, f1, f2, f3, f4, f5, f6, f7, f8, f9, f10, f11⟩ | ⟨hdl, _⟩
                        rotate_left
                        · exact absurd ((hcl 10 _ rfl (hcl 12 _ rfl hdl ⟨10, .data⟩ (by simp) rfl) ⟨9, .data⟩ (by simp) rfl).symm.trans hdk) (by decide)
                        have h8 := haft ⟨8, .data⟩ (by simp) rfl
                        have hap : d 10 = false := by
                          cases hh : d 10 with
                          | false => rfl
                          | true => exact absurd ((hcl 10 _ rfl hh ⟨9, .data⟩ (by simp) rfl).symm.trans hdk) (by decide)
                        have HW := hid (FA.out hap)
                        obtain rfl := f8.out h8
                        have hdz := hid hdf
                        clear h8 hdk haft hcl hdf hap
                        go_wp2
                        exact rthenK_n ⟨_, _, _, _, _, _, _, _, _, _, _, _, rfl, .inl ⟨rkd rfl hdz, hid (HB.out.trans ((below_one w9 _).mono (Nat.le_trans hbw HB.out.size))), hid (fun h => (FA.out (runupd rfl h)).trans ((below_one w9 _).mono (FA.out (runupd rfl h)).size)), rkf rfl f0 (fun h => by first | exact h | exact rfl), rkf rfl f1 (fun h => by first | exact h | exact rfl), rkf rfl f2 (fun h => by first | exact h | exact rfl), rkf rfl f3 (fun h => by first | exact h | exact rfl), rkf rfl f4 (fun h => by first | exact h | exact rfl), rkf rfl f5 (fun h => by first | exact h | exact rfl), rkf rfl f6 (fun h => by first | exact h | exact rfl), rkf rfl f7 (fun h => by first | exact h | exact rfl), rkf rfl f8 (fun h => by first | exact h | exact rfl), rnf ⟨_, rfl, fun _ => heap_alloc_new w9 _⟩, rkf rfl f10 (fun h => own_belowS h (below_one w9 _)), rkf rfl f11 (fun h => by first | exact h | exact rfl)⟩⟩
                      · rintro d ac w9 ⟨x69, x70, x71, x72, x73, x74, x75, x76, x77, x78, x79, x80, rfl, hI⟩ hcl hdk haft
                        rcases hI with ⟨hdf, HB, FA, f0, f1, f2, f3, f4, f5, f6, f7, f8, f9, f10, f11⟩ | ⟨hdl, _⟩
                        rotate_left
                        · exact absurd ((hcl 12 _ rfl hdl ⟨10, .data⟩ (by simp) rfl).symm.trans hdk) (by decide)
                        have h1 := haft ⟨1, .data⟩ (by simp) rfl
                        have h9 := haft ⟨9, .data⟩ (by simp) rfl
                        have hap : d 10 = false := by
                          cases hh : d 10 with
                          | false => rfl
                          | true => exact absurd (hh.symm.trans hdk) (by decide)
                        have HW := hid (FA.out hap)
                        obtain rfl := f1.out h1
                        obtain ⟨g9, rfl, hg9⟩ := f9.out h9
                        have HG9 := hid (hg9 hap)
                        clear hg9
                        have hdz := hid hdf
                        clear h1 h9 hdk haft hcl hdf hap
                        have HU9 := hid (own_belowS HU.out HW.out)
                        go_wp2_with (at_builtin; refine wpList_append_own _ rfl _ _ 58 rfl (wo3.heap.size + 1 + 1) 56 t0 _ 4 48 Tryd.underlying58 ht0 ht1 ht2 ht3 rfl (by decide) _ l (XS) rfl HU9.out ⟨g9, 0, none⟩ 1 1 [.string FZ, .int .i64 ck, .int .i64 cn, .string cs] rfl rfl (ren_cells HG9.out rfl) (ren_one rfl) (by unfold maxLen; omega) (by omega) (Nat.le_trans hbw HB.out.size) ?_; intro v8 w8 hown8 hg8 _)
                        exact rthenK_n ⟨_, _, _, _, _, _, _, _, _, _, _, _, rfl, .inl ⟨rkd rfl hdz, hid (HB.out.grown hg8 (Nat.le_trans hbw HB.out.size) (fun k e => (HU9.out.lt k e).1)), hid (fun h => absurd h (fun h => rupd_self h)), rkf rfl f0 (fun h => by first | exact h | exact rfl), rkf rfl f1 (fun h => by first | exact h | exact rfl), rkf rfl f2 (fun h => by first | exact h | exact rfl), rkf rfl f3 (fun h => by first | exact h | exact rfl), rkf rfl f4 (fun h => by first | exact h | exact rfl), rkf rfl f5 (fun h => by first | exact h | exact rfl), rkf rfl f6 (fun h => by first | exact h | exact rfl), rkf rfl f7 (fun h => by first | exact h | exact rfl), rkf rfl f8 (fun h => by first | exact h | exact rfl), rkf rfl f9 (fun h => (by obtain ⟨g, e1, _⟩ := h; exact ⟨g, e1, fun h15 => absurd h15 (fun h => rupd_self h)⟩)), rnf hown8, rkf rfl f11 (fun h => by first | exact h | exact rfl)⟩⟩
                      · rintro d ac w9 ⟨x69, x70, x71, x72, x73, x74, x75, x76, x77, x78, x79, x80, rfl, hI⟩ hcl hdk haft
                        rcases hI with ⟨hdf, HB, FA, f0, f1, f2, f3, f4, f5, f6, f7, f8, f9, f10, f11⟩ | ⟨hdl, _⟩
                        rotate_left
                        · exact absurd ((hcl 12 _ rfl hdl ⟨11, .data⟩ (by simp) rfl).symm.trans hdk) (by decide)
                        have hdz := hid hdf
                        clear  hdk haft hcl hdf
                        go_wp2
                        exact rthenK_n ⟨_, _, _, _, _, _, _, _, _, _, _, _, rfl, .inl ⟨rkd rfl hdz, hid (HB.out.trans ((Below.refl w9.heap.size w9).mono (Nat.le_trans hbw HB.out.size))), hid (fun h => (FA.out (runupd rfl h)).trans ((Below.refl w9.heap.size w9).mono (FA.out (runupd rfl h)).size)), rkf rfl f0 (fun h => by first | exact h | exact rfl), rkf rfl f1 (fun h => by first | exact h | exact rfl), rkf rfl f2 (fun h => by first | exact h | exact rfl), rkf rfl f3 (fun h => by first | exact h | exact rfl), rkf rfl f4 (fun h => by first | exact h | exact rfl), rkf rfl f5 (fun h => by first | exact h | exact rfl), rkf rfl f6 (fun h => by first | exact h | exact rfl), rkf rfl f7 (fun h => by first | exact h | exact rfl), rkf rfl f8 (fun h => by first | exact h | exact rfl), rkf rfl f9 (fun h => (by obtain ⟨g, e1, e2⟩ := h; exact ⟨g, e1, fun h15 => res_keep' (e2 (runupd rfl h15)) (Below.refl w9.heap.size w9) (lt_of_block (e2 (runupd rfl h15)))⟩)), rkf rfl f10 (fun h => own_belowS h (Below.refl w9.heap.size w9)), rnf rfl⟩⟩
                      · rintro d ac w9 ⟨x69, x70, x71, x72, x73, x74, x75, x76, x77, x78, x79, x80, rfl, hI⟩ hcl hdk haft
                        rcases hI with ⟨hdf, HB, FA, f0, f1, f2, f3, f4, f5, f6, f7, f8, f9, f10, f11⟩ | ⟨hdl, _⟩
                        rotate_left
                        · exact absurd (hdl.symm.trans hdk) (by decide)
                        have h11 := haft ⟨11, .data⟩ (by simp) rfl
                        have h10 := haft ⟨10, .data⟩ (by simp) rfl
                        obtain rfl := f11.out h11
                        have hap8 := hid (f10.out h10)
                        have hdz := hid hdf
                        have hp9 := res_keep' HBX.out HB.out HBXL.out
                        have p3 : w9.cell? ⟨wo3.heap.size + 1, 2, none⟩ = some u4 := rcell hp9 rfl
                        have fz : w9.frozen? ⟨wo3.heap.size + 1, 2, none⟩ = false := by simp [World.frozen?, hp9]
                        have HP9 := hid hp9
                        obtain ⟨g8, cap8, rfl⟩ := own_slice1 hap8.out
                        have hne : Value.ownBlock (.slice (some ⟨g8, 0, none⟩) (l + 1) cap8) ≠ some (wo3.heap.size + 1) := fun e => by have := (hap8.out.lt _ e).1; have := HBXL.out; omega
                        have HNE := hid hne
                        clear hp9 hne
                        clear h11 h10 hdk haft hcl hdf
                        go_wp2
                        exact rthenK_n ⟨_, _, _, _, _, _, _, _, _, _, _, _, rfl, .inr ⟨rfl, hid (⟨_, heap_setCell_same w9 (wo3.heap.size + 1) 2 _ _ _ HP9.out, ownsRow_setCell_other hap8.out (a := ⟨wo3.heap.size + 1, 2, none⟩) HNE.out _, (HB.out.mono (by have := HBXL.out; omega)).setCell (p := ⟨wo3.heap.size + 1, 2, none⟩) (Nat.le_refl (wo3.heap.size + 1)) _⟩)⟩⟩
                    case fin =>
                      rintro d ac w9 ⟨x69, x70, x71, x72, x73, x74, x75, x76, x77, x78, x79, x80, rfl, hI⟩ hall
                      rcases hI with ⟨hd, _⟩ | ⟨_, HE⟩
                      · exact absurd ((hall 12).symm.trans hd) (by decide)
                      clear hall
                      obtain ⟨v8, hp8, hown8, hb8⟩ := HE.out
                      have HP8 := hid hp8
                      rw [← HTK.out] at hown8
                      have HO8 := hid hown8
                      have HR8 := hid (res_keep' HR5.out hb8 (by omega))
                      have HB8 := hid (HB5.out.trans (hb8.mono (by omega)))
                      clear HE hp8 hown8 hb8
                      go_wp2
                      go_roundw
                      case rel => exact ⟨l + 1, v8, by omega, (by first | rfl | go_num), HP8, HO8, HR8, HB8⟩
                      case measure => simp [intOf]; omega
                  · have hke : l = ts.length := by have := HM.out; omega
                    have hU := HU4.out
                    rw [List.take_of_length_le (by omega), hke, ← List.length_map (f := mapT f)] at hU
                    obtain ⟨TA, tc, eu4, _, _⟩ := ren_trms hU
                    rw [List.length_map] at eu4
                    have hml : ts.length = m := HM.out
                    rw [hml] at eu4
                    subst eu4
                    have HUT := hid hU
                    clear hU HU4 hml
                    have HS9 := hid (res_keep' HS.out HB4.out (lt_of_block HS.out))
                    have HUA9 := hid (HUA.out.below HB4.out)
                    have HR9 := hid (res_keep' HR.out HB4.out (lt_of_block HR.out))
                    have HB9 := hid (HB3.out.trans (HB4.out.mono HB3.out.size))
                    obtain ⟨s0, s1⟩ := rcell2 HS9.out
                    have slt := lt_of_block HS9.out
                    obtain ⟨e0, e1, e2⟩ := rcell3 HS4.out
                    have elt := lt_of_block HS4.out
                    obtain ⟨us, hu0, hu1, hu2⟩ := HUA9.out
                    have hlj : ((ats.take j).map (mapA f)).length = j := by simp; have := HN.out; omega
                    have hu1' := hu1
                    rw [hlj] at hu1'
                    have HU1 := hid hu1
                    have HU1' := hid hu1'
                    have HU0 := hid hu0
                    have HU2 := hid hu2
                    have HLJ := hid hlj
                    clear hu0 hu1 hu2 hlj hu1' HUA9
                    go_wp2_with (at_builtin; refine wpList_append_new2 Tryd.underlying46 ha0 ha1 ha2 ha3 rfl (by decide) (by decide) rfl rfl rfl HU1'.out rfl rfl rfl rfl (by omega) (by omega) ?_; intro v8 w8 hown8 hg8; obtain ⟨g8, cap8, rfl⟩ := own_slice1 hown8; have hp8 := hid ((hg8.block (wo.heap.size + 1) slt (fun e => by have := (HU1'.out.lt _ e.symm).1; omega)).trans HS9.out); have hr8 := hid ((hg8.block wo.heap.size (by omega) (fun e => by have := (HU1'.out.lt _ e.symm).1; omega)).trans HR9.out); have t8 := rcell (o := 0) (v := x) hp8.out rfl; have f8 : w8.frozen? ⟨wo.heap.size + 1, 0, none⟩ = false := (by simp [World.frozen?, hp8.out]); have pl8 := lt_of_block hp8.out)
                    have HP10 := hid (heap_setCell_same w8 (wo.heap.size + 1) 0 _ _ (.slice (some ⟨g8, 0, none⟩) (j + 1) cap8) hp8.out)
                    have HUA10 := hid ((OwnAts.push (a := mapA f ⟨neg, rel, ts⟩) HU0.out HU1.out HU2.out (ren_mono HUT.out (by have := HB3.out.size; have := lt_of_block HS.out; omega)) hg8 (by rw [HLJ.out]) (by have h := hown8; rw [← HXX.out] at h; exact h)).far (ren_set w8 (wo.heap.size + 1) 0 (.slice (some ⟨g8, 0, none⟩) (j + 1) cap8)) (by omega))
                    have hb9 := HB9.out.grown hg8 HB9.out.size (fun j e => by have := (HU1'.out.lt j e).1; omega)
                    have HB10 := hid (hb9.setCell (p := ⟨wo.heap.size + 1, 0, none⟩) (by show wo.heap.size ≤ wo.heap.size + 1; omega) (.slice (some ⟨g8, 0, none⟩) (j + 1) cap8))
                    have HR10 := hid ((Below.heap_setCell w8 ⟨wo.heap.size + 1, 0, none⟩ (.slice (some ⟨g8, 0, none⟩) (j + 1) cap8) wo.heap.size (by show wo.heap.size ≠ wo.heap.size + 1; omega)).trans hr8.out)
                    rw [← HTKA.out] at HUA10
                    clear hown8 hg8 hp8 t8 f8 hb9 HU1 HU1' HU0 HU2 HS9 HR9 HB9 hr8
                    go_wp2
                    go_roundw
                    case rel => exact ⟨j + 1, _, by omega, (by first | rfl | go_num), HP10, HUA10, HR10, HB10⟩
                    case measure => simp [intOf]; omega
              · have hje : j = ats.length := by have := HN.out; omega
                have hU := HUA.out
                rw [List.take_of_length_le (by omega)] at hU
                have HUA9 := hid hU
                obtain ⟨s0, s1⟩ := rcell2 HR.out
                have slt := lt_of_block HR.out
                clear hU HUA hje
                go_wp2
                clear s0 s1 slt
                go_loopw [92] (fun i wr => ∃ (j : Nat) (z : Value), j ≤ n2 ∧ i = .int .i64 j ∧ Hid (wr.heap[(wo.heap.size + 1)]? = some (.cells #[x, z] 49 (0, 0))) ∧ Hid (OwnAts wr (wo.heap.size + 1 + 1) x (ats.map (mapA f))) ∧ Hid (wr.ownsRow (wo.heap.size + 1 + 1) 62 5 z j (((cds.take j).map (mapC f)).flatMap cellsC)) ∧ Hid (wr.heap[wo.heap.size]? = some (.cells #[.slice T n ct, .slice T2 n2 ct2] 49 (0, 0))) ∧ Hid (Below wo.heap.size wo wr)) (fun i _ => n2 - (intOf i).toNat)
                case atStart => exact ⟨0, .slice none 0 0, by omega, rfl, HS, HUA9, hid (World.ownsRow_nil _ _ _ _), HR, HB3⟩
                case round =>
                  clear HS HUA9 HR HB3 hbo hlt3 hjn hj
                  obtain ⟨l, u5, hl, rfl, HS5, HX5, HU5, HR5, HB5⟩ := hrel
                  have hb5 := HBL.out.trans (HB5.out.mono HBL.out.size)
                  have hlt5 := lt_of_block HS5.out
                  by_cases hln : l < n2
                  · have hll : l < cds.length := by rw [HN2.out]; exact hln
                    obtain ⟨b3, o3, rfl, hc3⟩ := HCN.out (by omega)
                    obtain ⟨d0, d1, d2, d3, d4⟩ := hc3 l hll
                    replace d0 := cell_keep hb5 d0
                    replace d1 := cell_keep hb5 d1
                    replace d2 := cell_keep hb5 d2
                    replace d3 := cell_keep hb5 d3
                    replace d4 := cell_keep hb5 d4
                    have hwv := (HWC.out cds[l] (List.getElem_mem hll)).v
                    have htk : ((cds.take (l + 1)).map (mapC f)).flatMap cellsC = ((cds.take l).map (mapC f)).flatMap cellsC ++ cellsC (mapC f cds[l]) := by rw [List.take_succ_eq_append_getElem hll, List.map_append, List.flatMap_append]; simp
                    obtain ⟨t, et⟩ : ∃ t, cds[l] = t := ⟨_, rfl⟩
                    rw [et] at d0 d1 d2 d3 d4 hwv htk
                    obtain ⟨v, op, ⟨ck, cn, cs⟩⟩ := t
                    simp only [mapC, cellsC] at d0 d1 d2 d3 d4 hwv htk
                    obtain ⟨Z, hZ, hZd, _⟩ := nm v
                    rw [hZ] at d0
                    have hZs := maxLen_of hZd hwv
                    obtain ⟨FZ, hFZ⟩ : ∃ X : ByteArray, (⟨(f Z.data.toList).toArray⟩ : ByteArray) = X := ⟨_, rfl⟩
                    have hCZ : ∀ W, Below w.heap.size w W → Hid (Calls Tryd.prog 44 #[.string Z, .pointer (some ⟨gm, 0, none⟩)] W fun e w' => e = .returned (.string FZ) ∧ Below W.heap.size W w') := fun W h => hid (by have := (HRN.out W Z h hZs).out; rw [hFZ] at this; exact this)
                    have HCZ := hid hCZ
                    clear hCZ
                    rw [← hZd, hFZ] at htk
                    have HTK := hid htk
                    clear htk hZ hZd hFZ et hc3 hwv
                    have h0 := heap_alloc_new wr (.cells #[.string Z, .int .i64 op, .int .i64 ck, .int .i64 cn, .string cs] 62)
                    have h1 := below_one wr (.cells #[.string Z, .int .i64 op, .int .i64 ck, .int .i64 cn, .string cs] 62)
                    have HBX := hid (res_keep' HS5.out h1 (lt_of_block HS5.out))
                    have HU := hid (own_belowS HU5.out h1)
                    have HX := hid (HX5.out.below h1)
                    have HBE := hid (hb5.trans (h1.mono hb5.size))
                    have HB6 := hid (HB5.out.trans (h1.mono HB5.out.size))
                    have HR6 := hid (res_keep' HR5.out h1 (lt_of_block HR5.out))
                    have H0 := hid h0
                    clear h0 h1 HS5 HU5 HX5 HR5 HB5
                    go_upto_region 25 with fail
                    clear d0 d1 d2 d3 d4 hb5
                    generalize wr.heap.size = g17 at *
                    generalize wr.alloc (.cells #[.string Z, .int .i64 op, .int .i64 ck, .int .i64 cn, .string cs] 62) = wa at *
                    have C0 := hid (rcell (o := 0) H0.out rfl)
                    have C1 := hid (rcell (o := 1) H0.out rfl)
                    have C2 := hid (rcell (o := 2) H0.out rfl)
                    have C3 := hid (rcell (o := 3) H0.out rfl)
                    have C4 := hid (rcell (o := 4) H0.out rfl)
                    have hsl := lt_of_block H0.out
                    have HSL := hid hsl
                    have hbw : wo.heap.size + 1 + 1 ≤ wa.heap.size := by omega
                    have HBXL := hid (show wo.heap.size + 1 < wo.heap.size + 1 + 1 by omega)
                    clear H0 hsl
                    obtain ⟨XS, hXS⟩ : ∃ xl : List Value, ((cds.take l).map (mapC f)).flatMap cellsC = xl := ⟨_, rfl⟩
                    rw [hXS] at HU HTK
                    have HXS := hid hXS
                    clear hXS
                    refine wp_region_inv2 (fun d ac w9 => ∃ x96 x97 x98 x99 x100 x101 x102 x103 x104 x105 x106 x107 x108 x109 : Value, ac = { tmps := List.toArray ((Value.agg #[Value.slice A hd.length ch, Value.int IntKind.i64 ga, Value.string Y, Value.slice (some { block := bb, off := o }) rs.length cr, Value.slice O os.length co]) :: (Value.func (Fn.func 44) #[] #[Value.pointer (some { block := gm, off := 0 })]) :: (Value.pointer (some { block := w.heap.size, off := 0 })) :: undef :: (Value.pointer (some { block := w.heap.size + 1, off := 0 })) :: (Value.pointer (some { block := g5, off := 0 })) :: undef :: u7 :: undef :: (Value.pointer (some { block := wo.heap.size, off := 0 })) :: (Value.pointer (some { block := wo.heap.size + 1, off := 0 })) :: undef :: u12 :: u13 :: undef :: u15 :: undef :: (Value.pointer (some { block := g17, off := 0 })) :: undef :: undef :: x20 :: x21 :: x22 :: x23 :: x24 :: x25 :: x26 :: (Value.pointer (some { block := w.heap.size, off := 0 })) :: (Value.slice A hd.length ch) :: (Value.int IntKind.i64 ↑hd.length) :: (Value.int IntKind.i64 ↑k1) :: (Value.bool false) :: u32 :: u33 :: u34 :: u35 :: u36 :: u37 :: u38 :: u39 :: u40 :: u41 :: u42 :: (Value.pointer (some { block := w.heap.size, off := 3 })) :: (Value.slice (some { block := bb, off := o }) rs.length cr) :: (Value.int IntKind.i64 ↑rs.length) :: (Value.int IntKind.i64 ↑k) :: (Value.bool true) :: (Value.pointer (some { block := bb, off := o + k * 2 })) :: (Value.agg #[Value.slice T n ct, Value.slice (some { block := b3, off := o3 }) n2 ct2]) :: (Value.pointer (some { block := wo.heap.size, off := 0 })) :: (Value.slice T n ct) :: (Value.int IntKind.i64 ↑n) :: (Value.int IntKind.i64 ↑j) :: (Value.bool false) :: u55 :: u56 :: u57 :: u58 :: u59 :: u60 :: u61 :: u62 :: u63 :: u64 :: u65 :: u66 :: u67 :: u68 :: u69 :: u70 :: u71 :: u72 :: u73 :: u74 :: u75 :: u76 :: u77 :: u78 :: u79 :: u80 :: u81 :: u82 :: u83 :: u84 :: u85 :: u86 :: u87 :: u88 :: (Value.pointer (some { block := wo.heap.size, off := 1 })) :: (Value.slice (some { block := b3, off := o3 }) n2 ct2) :: (Value.int IntKind.i64 ↑n2) :: (Value.int IntKind.i64 ↑l) :: (Value.bool true) :: (Value.pointer (some { block := b3, off := o3 + l * 5 })) :: (Value.agg #[Value.string Z, Value.int IntKind.i64 op, Value.int IntKind.i64 ck, Value.int IntKind.i64 cn, Value.string cs]) :: x96 :: x97 :: x98 :: x99 :: x100 :: x101 :: x102 :: x103 :: x104 :: x105 :: x106 :: x107 :: x108 :: x109 :: u110 :: u111 :: u112 :: u113 :: u114 :: u115 :: u116 :: u117 :: undef :: undef :: undef :: undef :: undef :: undef :: undef :: undef :: undef :: undef :: undef :: undef :: undef :: undef :: undef :: undef :: undef :: undef :: undef :: undef :: undef :: []), defers := [] } ∧ ((d 14 = false ∧ Hid (Below (wo.heap.size + 1 + 1) wa w9) ∧ Hid (d 12 = false → Below wa.heap.size wa w9) ∧ Hid (OwnAts w9 (wo.heap.size + 1 + 1) x (ats.map (mapA f))) ∧ Hid (d 0 = true → x96 = .pointer (some ⟨wo.heap.size + 1, 1, none⟩)) ∧ Hid (d 1 = true → x97 = u5) ∧ Hid (d 2 = true → x98 = .func (.func 44) #[] #[.pointer (some ⟨gm, 0, none⟩)]) ∧ Hid (d 3 = true → x99 = .pointer (some ⟨g17, 0, none⟩)) ∧ Hid (d 4 = true → x100 = .string Z) ∧ Hid (d 5 = true → x101 = .string FZ) ∧ Hid (d 6 = true → x102 = .pointer (some ⟨g17, 1, none⟩)) ∧ Hid (d 7 = true → x103 = .int .i64 op) ∧ Hid (d 8 = true → x104 = .pointer (some ⟨g17, 2, none⟩)) ∧ Hid (d 9 = true → x105 = .agg #[.int .i64 ck, .int .i64 cn, .string cs]) ∧ Hid (d 10 = true → x106 = .agg #[.string FZ, .int .i64 op, .int .i64 ck, .int .i64 cn, .string cs]) ∧ Hid (d 11 = true → ∃ g, x107 = .slice (some ⟨g, 0, none⟩) 1 1 ∧ (d 12 = false → w9.heap[g]? = some (.cells #[.string FZ, .int .i64 op, .int .i64 ck, .int .i64 cn, .string cs] 62 (0, 0)))) ∧ Hid (d 12 = true → w9.ownsRow (wo.heap.size + 1 + 1) 62 5 x108 (l + 1) (XS ++ [.string FZ, .int .i64 op, .int .i64 ck, .int .i64 cn, .string cs])) ∧ Hid (d 13 = true → x109 = .pointer (some ⟨wo.heap.size + 1, 1, none⟩))) ∨ (d 14 = true ∧ Hid (∃ v8, w9.heap[wo.heap.size + 1]? = some (.cells #[x, v8] 49 (0, 0)) ∧ w9.ownsRow (wo.heap.size + 1 + 1) 62 5 v8 (l + 1) (XS ++ [.string FZ, .int .i64 op, .int .i64 ck, .int .i64 cn, .string cs]) ∧ OwnAts w9 (wo.heap.size + 1 + 1) x (ats.map (mapA f)) ∧ Below (wo.heap.size + 1) wa w9)))) (by kernel_rfl) (by kernel_rfl) ?h0 ?hst ?fin
                    case h0 => exact ⟨_, _, _, _, _, _, _, _, _, _, _, _, _, _, rfl, .inl ⟨rfl, hid (Below.drew (Below.refl _ _)), hid (fun _ => Below.drew (Below.refl _ _)), hid (HX.out.below (Below.drew (Below.refl _ _))), hid (fun h => absurd h (by decide)), hid (fun h => absurd h (by decide)), hid (fun h => absurd h (by decide)), hid (fun h => absurd h (by decide)), hid (fun h => absurd h (by decide)), hid (fun h => absurd h (by decide)), hid (fun h => absurd h (by decide)), hid (fun h => absurd h (by decide)), hid (fun h => absurd h (by decide)), hid (fun h => absurd h (by decide)), hid (fun h => absurd h (by decide)), hid (fun h => absurd h (by decide)), hid (fun h => absurd h (by decide)), hid (fun h => absurd h (by decide))⟩⟩
                    case hst =>
                      refine ⟨?_, ?_, ?_, ?_, ?_, ?_, ?_, ?_, ?_, ?_, ?_, ?_, ?_, ?_, ?_, trivial⟩
                      · rintro d ac w9 ⟨x96, x97, x98, x99, x100, x101, x102, x103, x104, x105, x106, x107, x108, x109, rfl, hI⟩ hcl hdk haft
                        rcases hI with ⟨hdf, HB, FA, EX, f0, f1, f2, f3, f4, f5, f6, f7, f8, f9, f10, f11, f12, f13⟩ | ⟨hdl, _⟩
                        rotate_left
                        · exact absurd ((hcl 1 _ rfl (hcl 12 _ rfl (hcl 14 _ rfl hdl ⟨12, .data⟩ (by simp) rfl) ⟨1, .data⟩ (by simp) rfl) ⟨0, .data⟩ (by simp) rfl).symm.trans hdk) (by decide)
                        have hap : d 12 = false := by
                          cases hh : d 12 with
                          | false => rfl
                          | true => exact absurd ((hcl 1 _ rfl (hcl 12 _ rfl hh ⟨1, .data⟩ (by simp) rfl) ⟨0, .data⟩ (by simp) rfl).symm.trans hdk) (by decide)
                        have HW := hid (FA.out hap)
                        have hdz := hid hdf
                        clear  hdk haft hcl hdf hap
                        go_wp2
                        exact rthenK_n ⟨_, _, _, _, _, _, _, _, _, _, _, _, _, _, rfl, .inl ⟨rkd rfl hdz, hid (HB.out.trans ((Below.refl w9.heap.size w9).mono (Nat.le_trans hbw HB.out.size))), hid (fun h => (FA.out (runupd rfl h)).trans ((Below.refl w9.heap.size w9).mono (FA.out (runupd rfl h)).size)), hid (EX.out.below (Below.refl w9.heap.size w9)), rnf rfl, rkf rfl f1 (fun h => by first | exact h | exact rfl), rkf rfl f2 (fun h => by first | exact h | exact rfl), rkf rfl f3 (fun h => by first | exact h | exact rfl), rkf rfl f4 (fun h => by first | exact h | exact rfl), rkf rfl f5 (fun h => by first | exact h | exact rfl), rkf rfl f6 (fun h => by first | exact h | exact rfl), rkf rfl f7 (fun h => by first | exact h | exact rfl), rkf rfl f8 (fun h => by first | exact h | exact rfl), rkf rfl f9 (fun h => by first | exact h | exact rfl), rkf rfl f10 (fun h => by first | exact h | exact rfl), rkf rfl f11 (fun h => (by obtain ⟨g, e1, e2⟩ := h; exact ⟨g, e1, fun h15 => res_keep' (e2 (runupd rfl h15)) (Below.refl w9.heap.size w9) (lt_of_block (e2 (runupd rfl h15)))⟩)), rkf rfl f12 (fun h => own_belowS h (Below.refl w9.heap.size w9)), rkf rfl f13 (fun h => by first | exact h | exact rfl)⟩⟩
                      · rintro d ac w9 ⟨x96, x97, x98, x99, x100, x101, x102, x103, x104, x105, x106, x107, x108, x109, rfl, hI⟩ hcl hdk haft
                        rcases hI with ⟨hdf, HB, FA, EX, f0, f1, f2, f3, f4, f5, f6, f7, f8, f9, f10, f11, f12, f13⟩ | ⟨hdl, _⟩
                        rotate_left
                        · exact absurd ((hcl 12 _ rfl (hcl 14 _ rfl hdl ⟨12, .data⟩ (by simp) rfl) ⟨1, .data⟩ (by simp) rfl).symm.trans hdk) (by decide)
                        have h0 := haft ⟨0, .data⟩ (by simp) rfl
                        have hap : d 12 = false := by
                          cases hh : d 12 with
                          | false => rfl
                          | true => exact absurd ((hcl 12 _ rfl hh ⟨1, .data⟩ (by simp) rfl).symm.trans hdk) (by decide)
                        have HW := hid (FA.out hap)
                        obtain rfl := f0.out h0
                        have hdz := hid hdf
                        have hp9 := res_keep' HBX.out HB.out HBXL.out
                        have r0 := rcell (o := 1) (v := u5) hp9 rfl
                        have rl := lt_of_block hp9
                        clear hp9
                        clear h0 hdk haft hcl hdf hap
                        go_wp2
                        exact rthenK_n ⟨_, _, _, _, _, _, _, _, _, _, _, _, _, _, rfl, .inl ⟨rkd rfl hdz, hid (HB.out.trans ((Below.refl w9.heap.size w9).mono (Nat.le_trans hbw HB.out.size))), hid (fun h => (FA.out (runupd rfl h)).trans ((Below.refl w9.heap.size w9).mono (FA.out (runupd rfl h)).size)), hid (EX.out.below (Below.refl w9.heap.size w9)), rkf rfl f0 (fun h => by first | exact h | exact rfl), rnf rfl, rkf rfl f2 (fun h => by first | exact h | exact rfl), rkf rfl f3 (fun h => by first | exact h | exact rfl), rkf rfl f4 (fun h => by first | exact h | exact rfl), rkf rfl f5 (fun h => by first | exact h | exact rfl), rkf rfl f6 (fun h => by first | exact h | exact rfl), rkf rfl f7 (fun h => by first | exact h | exact rfl), rkf rfl f8 (fun h => by first | exact h | exact rfl), rkf rfl f9 (fun h => by first | exact h | exact rfl), rkf rfl f10 (fun h => by first | exact h | exact rfl), rkf rfl f11 (fun h => (by obtain ⟨g, e1, e2⟩ := h; exact ⟨g, e1, fun h15 => res_keep' (e2 (runupd rfl h15)) (Below.refl w9.heap.size w9) (lt_of_block (e2 (runupd rfl h15)))⟩)), rkf rfl f12 (fun h => own_belowS h (Below.refl w9.heap.size w9)), rkf rfl f13 (fun h => by first | exact h | exact rfl)⟩⟩
                      · rintro d ac w9 ⟨x96, x97, x98, x99, x100, x101, x102, x103, x104, x105, x106, x107, x108, x109, rfl, hI⟩ hcl hdk haft
                        rcases hI with ⟨hdf, HB, FA, EX, f0, f1, f2, f3, f4, f5, f6, f7, f8, f9, f10, f11, f12, f13⟩ | ⟨hdl, _⟩
                        rotate_left
                        · exact absurd ((hcl 5 _ rfl (hcl 10 _ rfl (hcl 11 _ rfl (hcl 12 _ rfl (hcl 14 _ rfl hdl ⟨12, .data⟩ (by simp) rfl) ⟨11, .data⟩ (by simp) rfl) ⟨10, .data⟩ (by simp) rfl) ⟨5, .data⟩ (by simp) rfl) ⟨2, .data⟩ (by simp) rfl).symm.trans hdk) (by decide)
                        have hap : d 12 = false := by
                          cases hh : d 12 with
                          | false => rfl
                          | true => exact absurd ((hcl 5 _ rfl (hcl 10 _ rfl (hcl 11 _ rfl (hcl 12 _ rfl hh ⟨11, .data⟩ (by simp) rfl) ⟨10, .data⟩ (by simp) rfl) ⟨5, .data⟩ (by simp) rfl) ⟨2, .data⟩ (by simp) rfl).symm.trans hdk) (by decide)
                        have HW := hid (FA.out hap)
                        have hdz := hid hdf
                        clear  hdk haft hcl hdf hap
                        go_wp2
                        exact rthenK_n ⟨_, _, _, _, _, _, _, _, _, _, _, _, _, _, rfl, .inl ⟨rkd rfl hdz, hid (HB.out.trans ((Below.refl w9.heap.size w9).mono (Nat.le_trans hbw HB.out.size))), hid (fun h => (FA.out (runupd rfl h)).trans ((Below.refl w9.heap.size w9).mono (FA.out (runupd rfl h)).size)), hid (EX.out.below (Below.refl w9.heap.size w9)), rkf rfl f0 (fun h => by first | exact h | exact rfl), rkf rfl f1 (fun h => by first | exact h | exact rfl), rnf rfl, rkf rfl f3 (fun h => by first | exact h | exact rfl), rkf rfl f4 (fun h => by first | exact h | exact rfl), rkf rfl f5 (fun h => by first | exact h | exact rfl), rkf rfl f6 (fun h => by first | exact h | exact rfl), rkf rfl f7 (fun h => by first | exact h | exact rfl), rkf rfl f8 (fun h => by first | exact h | exact rfl), rkf rfl f9 (fun h => by first | exact h | exact rfl), rkf rfl f10 (fun h => by first | exact h | exact rfl), rkf rfl f11 (fun h => (by obtain ⟨g, e1, e2⟩ := h; exact ⟨g, e1, fun h15 => res_keep' (e2 (runupd rfl h15)) (Below.refl w9.heap.size w9) (lt_of_block (e2 (runupd rfl h15)))⟩)), rkf rfl f12 (fun h => own_belowS h (Below.refl w9.heap.size w9)), rkf rfl f13 (fun h => by first | exact h | exact rfl)⟩⟩
                      · rintro d ac w9 ⟨x96, x97, x98, x99, x100, x101, x102, x103, x104, x105, x106, x107, x108, x109, rfl, hI⟩ hcl hdk haft
                        rcases hI with ⟨hdf, HB, FA, EX, f0, f1, f2, f3, f4, f5, f6, f7, f8, f9, f10, f11, f12, f13⟩ | ⟨hdl, _⟩
                        rotate_left
                        · exact absurd ((hcl 4 _ rfl (hcl 5 _ rfl (hcl 10 _ rfl (hcl 11 _ rfl (hcl 12 _ rfl (hcl 14 _ rfl hdl ⟨12, .data⟩ (by simp) rfl) ⟨11, .data⟩ (by simp) rfl) ⟨10, .data⟩ (by simp) rfl) ⟨5, .data⟩ (by simp) rfl) ⟨4, .data⟩ (by simp) rfl) ⟨3, .data⟩ (by simp) rfl).symm.trans hdk) (by decide)
                        have hap : d 12 = false := by
                          cases hh : d 12 with
                          | false => rfl
                          | true => exact absurd ((hcl 4 _ rfl (hcl 5 _ rfl (hcl 10 _ rfl (hcl 11 _ rfl (hcl 12 _ rfl hh ⟨11, .data⟩ (by simp) rfl) ⟨10, .data⟩ (by simp) rfl) ⟨5, .data⟩ (by simp) rfl) ⟨4, .data⟩ (by simp) rfl) ⟨3, .data⟩ (by simp) rfl).symm.trans hdk) (by decide)
                        have HW := hid (FA.out hap)
                        have hdz := hid hdf
                        clear  hdk haft hcl hdf hap
                        go_wp2
                        exact rthenK_n ⟨_, _, _, _, _, _, _, _, _, _, _, _, _, _, rfl, .inl ⟨rkd rfl hdz, hid (HB.out.trans ((Below.refl w9.heap.size w9).mono (Nat.le_trans hbw HB.out.size))), hid (fun h => (FA.out (runupd rfl h)).trans ((Below.refl w9.heap.size w9).mono (FA.out (runupd rfl h)).size)), hid (EX.out.below (Below.refl w9.heap.size w9)), rkf rfl f0 (fun h => by first | exact h | exact rfl), rkf rfl f1 (fun h => by first | exact h | exact rfl), rkf rfl f2 (fun h => by first | exact h | exact rfl), rnf rfl, rkf rfl f4 (fun h => by first | exact h | exact rfl), rkf rfl f5 (fun h => by first | exact h | exact rfl), rkf rfl f6 (fun h => by first | exact h | exact rfl), rkf rfl f7 (fun h => by first | exact h | exact rfl), rkf rfl f8 (fun h => by first | exact h | exact rfl), rkf rfl f9 (fun h => by first | exact h | exact rfl), rkf rfl f10 (fun h => by first | exact h | exact rfl), rkf rfl f11 (fun h => (by obtain ⟨g, e1, e2⟩ := h; exact ⟨g, e1, fun h15 => res_keep' (e2 (runupd rfl h15)) (Below.refl w9.heap.size w9) (lt_of_block (e2 (runupd rfl h15)))⟩)), rkf rfl f12 (fun h => own_belowS h (Below.refl w9.heap.size w9)), rkf rfl f13 (fun h => by first | exact h | exact rfl)⟩⟩
                      · rintro d ac w9 ⟨x96, x97, x98, x99, x100, x101, x102, x103, x104, x105, x106, x107, x108, x109, rfl, hI⟩ hcl hdk haft
                        rcases hI with ⟨hdf, HB, FA, EX, f0, f1, f2, f3, f4, f5, f6, f7, f8, f9, f10, f11, f12, f13⟩ | ⟨hdl, _⟩
                        rotate_left
                        · exact absurd ((hcl 5 _ rfl (hcl 10 _ rfl (hcl 11 _ rfl (hcl 12 _ rfl (hcl 14 _ rfl hdl ⟨12, .data⟩ (by simp) rfl) ⟨11, .data⟩ (by simp) rfl) ⟨10, .data⟩ (by simp) rfl) ⟨5, .data⟩ (by simp) rfl) ⟨4, .data⟩ (by simp) rfl).symm.trans hdk) (by decide)
                        have h3 := haft ⟨3, .data⟩ (by simp) rfl
                        have hap : d 12 = false := by
                          cases hh : d 12 with
                          | false => rfl
                          | true => exact absurd ((hcl 5 _ rfl (hcl 10 _ rfl (hcl 11 _ rfl (hcl 12 _ rfl hh ⟨11, .data⟩ (by simp) rfl) ⟨10, .data⟩ (by simp) rfl) ⟨5, .data⟩ (by simp) rfl) ⟨4, .data⟩ (by simp) rfl).symm.trans hdk) (by decide)
                        have HW := hid (FA.out hap)
                        obtain rfl := f3.out h3
                        have hdz := hid hdf
                        have c09 := cell_keep HW.out C0.out
                        have sl9 : g17 < w9.heap.size := Nat.lt_of_lt_of_le HSL.out HW.out.size
                        clear h3 hdk haft hcl hdf hap
                        go_wp2
                        exact rthenK_n ⟨_, _, _, _, _, _, _, _, _, _, _, _, _, _, rfl, .inl ⟨rkd rfl hdz, hid (HB.out.trans ((Below.refl w9.heap.size w9).mono (Nat.le_trans hbw HB.out.size))), hid (fun h => (FA.out (runupd rfl h)).trans ((Below.refl w9.heap.size w9).mono (FA.out (runupd rfl h)).size)), hid (EX.out.below (Below.refl w9.heap.size w9)), rkf rfl f0 (fun h => by first | exact h | exact rfl), rkf rfl f1 (fun h => by first | exact h | exact rfl), rkf rfl f2 (fun h => by first | exact h | exact rfl), rkf rfl f3 (fun h => by first | exact h | exact rfl), rnf rfl, rkf rfl f5 (fun h => by first | exact h | exact rfl), rkf rfl f6 (fun h => by first | exact h | exact rfl), rkf rfl f7 (fun h => by first | exact h | exact rfl), rkf rfl f8 (fun h => by first | exact h | exact rfl), rkf rfl f9 (fun h => by first | exact h | exact rfl), rkf rfl f10 (fun h => by first | exact h | exact rfl), rkf rfl f11 (fun h => (by obtain ⟨g, e1, e2⟩ := h; exact ⟨g, e1, fun h15 => res_keep' (e2 (runupd rfl h15)) (Below.refl w9.heap.size w9) (lt_of_block (e2 (runupd rfl h15)))⟩)), rkf rfl f12 (fun h => own_belowS h (Below.refl w9.heap.size w9)), rkf rfl f13 (fun h => by first | exact h | exact rfl)⟩⟩
                      · rintro d ac w9 ⟨x96, x97, x98, x99, x100, x101, x102, x103, x104, x105, x106, x107, x108, x109, rfl, hI⟩ hcl hdk haft
                        rcases hI with ⟨hdf, HB, FA, EX, f0, f1, f2, f3, f4, f5, f6, f7, f8, f9, f10, f11, f12, f13⟩ | ⟨hdl, _⟩
                        rotate_left
                        · exact absurd ((hcl 10 _ rfl (hcl 11 _ rfl (hcl 12 _ rfl (hcl 14 _ rfl hdl ⟨12, .data⟩ (by simp) rfl) ⟨11, .data⟩ (by simp) rfl) ⟨10, .data⟩ (by simp) rfl) ⟨5, .data⟩ (by simp) rfl).symm.trans hdk) (by decide)
                        have h2 := haft ⟨2, .data⟩ (by simp) rfl
                        have h4 := haft ⟨4, .data⟩ (by simp) rfl
                        have hap : d 12 = false := by
                          cases hh : d 12 with
                          | false => rfl
                          | true => exact absurd ((hcl 10 _ rfl (hcl 11 _ rfl (hcl 12 _ rfl hh ⟨11, .data⟩ (by simp) rfl) ⟨10, .data⟩ (by simp) rfl) ⟨5, .data⟩ (by simp) rfl).symm.trans hdk) (by decide)
                        have HW := hid (FA.out hap)
                        obtain rfl := f2.out h2
                        obtain rfl := f4.out h4
                        have hdz := hid hdf
                        clear h2 h4 hdk haft hcl hdf hap
                        go_wp2_with fail
                        refine (HCZ.out w9 (HBE.out.trans (HW.out.mono HBE.out.size))).out.mono ?_
                        rintro e w8 ⟨rfl, b8⟩
                        go_wp2
                        exact rthenK_n ⟨_, _, _, _, _, _, _, _, _, _, _, _, _, _, rfl, .inl ⟨rkd rfl hdz, hid (HB.out.trans (b8.mono (Nat.le_trans hbw HB.out.size))), hid (fun h => (FA.out (runupd rfl h)).trans (b8.mono (FA.out (runupd rfl h)).size)), hid (EX.out.below b8), rkf rfl f0 (fun h => by first | exact h | exact rfl), rkf rfl f1 (fun h => by first | exact h | exact rfl), rkf rfl f2 (fun h => by first | exact h | exact rfl), rkf rfl f3 (fun h => by first | exact h | exact rfl), rkf rfl f4 (fun h => by first | exact h | exact rfl), rnf rfl, rkf rfl f6 (fun h => by first | exact h | exact rfl), rkf rfl f7 (fun h => by first | exact h | exact rfl), rkf rfl f8 (fun h => by first | exact h | exact rfl), rkf rfl f9 (fun h => by first | exact h | exact rfl), rkf rfl f10 (fun h => by first | exact h | exact rfl), rkf rfl f11 (fun h => (by obtain ⟨g, e1, e2⟩ := h; exact ⟨g, e1, fun h15 => res_keep' (e2 (runupd rfl h15)) b8 (lt_of_block (e2 (runupd rfl h15)))⟩)), rkf rfl f12 (fun h => own_belowS h b8), rkf rfl f13 (fun h => by first | exact h | exact rfl)⟩⟩
                      · rintro d ac w9 ⟨x96, x97, x98, x99, x100, x101, x102, x103, x104, x105, x106, x107, x108, x109, rfl, hI⟩ hcl hdk haft
                        rcases hI with ⟨hdf, HB, FA, EX, f0, f1, f2, f3, f4, f5, f6, f7, f8, f9, f10, f11, f12, f13⟩ | ⟨hdl, _⟩
                        rotate_left
                        · exact absurd ((hcl 7 _ rfl (hcl 10 _ rfl (hcl 11 _ rfl (hcl 12 _ rfl (hcl 14 _ rfl hdl ⟨12, .data⟩ (by simp) rfl) ⟨11, .data⟩ (by simp) rfl) ⟨10, .data⟩ (by simp) rfl) ⟨7, .data⟩ (by simp) rfl) ⟨6, .data⟩ (by simp) rfl).symm.trans hdk) (by decide)
                        have hap : d 12 = false := by
                          cases hh : d 12 with
                          | false => rfl
                          | true => exact absurd ((hcl 7 _ rfl (hcl 10 _ rfl (hcl 11 _ rfl (hcl 12 _ rfl hh ⟨11, .data⟩ (by simp) rfl) ⟨10, .data⟩ (by simp) rfl) ⟨7, .data⟩ (by simp) rfl) ⟨6, .data⟩ (by simp) rfl).symm.trans hdk) (by decide)
                        have HW := hid (FA.out hap)
                        have hdz := hid hdf
                        clear  hdk haft hcl hdf hap
                        go_wp2
                        exact rthenK_n ⟨_, _, _, _, _, _, _, _, _, _, _, _, _, _, rfl, .inl ⟨rkd rfl hdz, hid (HB.out.trans ((Below.refl w9.heap.size w9).mono (Nat.le_trans hbw HB.out.size))), hid (fun h => (FA.out (runupd rfl h)).trans ((Below.refl w9.heap.size w9).mono (FA.out (runupd rfl h)).size)), hid (EX.out.below (Below.refl w9.heap.size w9)), rkf rfl f0 (fun h => by first | exact h | exact rfl), rkf rfl f1 (fun h => by first | exact h | exact rfl), rkf rfl f2 (fun h => by first | exact h | exact rfl), rkf rfl f3 (fun h => by first | exact h | exact rfl), rkf rfl f4 (fun h => by first | exact h | exact rfl), rkf rfl f5 (fun h => by first | exact h | exact rfl), rnf rfl, rkf rfl f7 (fun h => by first | exact h | exact rfl), rkf rfl f8 (fun h => by first | exact h | exact rfl), rkf rfl f9 (fun h => by first | exact h | exact rfl), rkf rfl f10 (fun h => by first | exact h | exact rfl), rkf rfl f11 (fun h => (by obtain ⟨g, e1, e2⟩ := h; exact ⟨g, e1, fun h15 => res_keep' (e2 (runupd rfl h15)) (Below.refl w9.heap.size w9) (lt_of_block (e2 (runupd rfl h15)))⟩)), rkf rfl f12 (fun h => own_belowS h (Below.refl w9.heap.size w9)), rkf rfl f13 (fun h => by first | exact h | exact rfl)⟩⟩
                      · rintro d ac w9 ⟨x96, x97, x98, x99, x100, x101, x102, x103, x104, x105, x106, x107, x108, x109, rfl, hI⟩ hcl hdk haft
                        rcases hI with ⟨hdf, HB, FA, EX, f0, f1, f2, f3, f4, f5, f6, f7, f8, f9, f10, f11, f12, f13⟩ | ⟨hdl, _⟩
                        rotate_left
                        · exact absurd ((hcl 10 _ rfl (hcl 11 _ rfl (hcl 12 _ rfl (hcl 14 _ rfl hdl ⟨12, .data⟩ (by simp) rfl) ⟨11, .data⟩ (by simp) rfl) ⟨10, .data⟩ (by simp) rfl) ⟨7, .data⟩ (by simp) rfl).symm.trans hdk) (by decide)
                        have h6 := haft ⟨6, .data⟩ (by simp) rfl
                        have hap : d 12 = false := by
                          cases hh : d 12 with
                          | false => rfl
                          | true => exact absurd ((hcl 10 _ rfl (hcl 11 _ rfl (hcl 12 _ rfl hh ⟨11, .data⟩ (by simp) rfl) ⟨10, .data⟩ (by simp) rfl) ⟨7, .data⟩ (by simp) rfl).symm.trans hdk) (by decide)
                        have HW := hid (FA.out hap)
                        obtain rfl := f6.out h6
                        have hdz := hid hdf
                        have c19 := cell_keep HW.out C1.out
                        have sl9 : g17 < w9.heap.size := Nat.lt_of_lt_of_le HSL.out HW.out.size
                        clear h6 hdk haft hcl hdf hap
                        go_wp2
                        exact rthenK_n ⟨_, _, _, _, _, _, _, _, _, _, _, _, _, _, rfl, .inl ⟨rkd rfl hdz, hid (HB.out.trans ((Below.refl w9.heap.size w9).mono (Nat.le_trans hbw HB.out.size))), hid (fun h => (FA.out (runupd rfl h)).trans ((Below.refl w9.heap.size w9).mono (FA.out (runupd rfl h)).size)), hid (EX.out.below (Below.refl w9.heap.size w9)), rkf rfl f0 (fun h => by first | exact h | exact rfl), rkf rfl f1 (fun h => by first | exact h | exact rfl), rkf rfl f2 (fun h => by first | exact h | exact rfl), rkf rfl f3 (fun h => by first | exact h | exact rfl), rkf rfl f4 (fun h => by first | exact h | exact rfl), rkf rfl f5 (fun h => by first | exact h | exact rfl), rkf rfl f6 (fun h => by first | exact h | exact rfl), rnf rfl, rkf rfl f8 (fun h => by first | exact h | exact rfl), rkf rfl f9 (fun h => by first | exact h | exact rfl), rkf rfl f10 (fun h => by first | exact h | exact rfl), rkf rfl f11 (fun h => (by obtain ⟨g, e1, e2⟩ := h; exact ⟨g, e1, fun h15 => res_keep' (e2 (runupd rfl h15)) (Below.refl w9.heap.size w9) (lt_of_block (e2 (runupd rfl h15)))⟩)), rkf rfl f12 (fun h => own_belowS h (Below.refl w9.heap.size w9)), rkf rfl f13 (fun h => by first | exact h | exact rfl)⟩⟩
                      · rintro d ac w9 ⟨x96, x97, x98, x99, x100, x101, x102, x103, x104, x105, x106, x107, x108, x109, rfl, hI⟩ hcl hdk haft
                        rcases hI with ⟨hdf, HB, FA, EX, f0, f1, f2, f3, f4, f5, f6, f7, f8, f9, f10, f11, f12, f13⟩ | ⟨hdl, _⟩
                        rotate_left
                        · exact absurd ((hcl 9 _ rfl (hcl 10 _ rfl (hcl 11 _ rfl (hcl 12 _ rfl (hcl 14 _ rfl hdl ⟨12, .data⟩ (by simp) rfl) ⟨11, .data⟩ (by simp) rfl) ⟨10, .data⟩ (by simp) rfl) ⟨9, .data⟩ (by simp) rfl) ⟨8, .data⟩ (by simp) rfl).symm.trans hdk) (by decide)
                        have hap : d 12 = false := by
                          cases hh : d 12 with
                          | false => rfl
                          | true => exact absurd ((hcl 9 _ rfl (hcl 10 _ rfl (hcl 11 _ rfl (hcl 12 _ rfl hh ⟨11, .data⟩ (by simp) rfl) ⟨10, .data⟩ (by simp) rfl) ⟨9, .data⟩ (by simp) rfl) ⟨8, .data⟩ (by simp) rfl).symm.trans hdk) (by decide)
                        have HW := hid (FA.out hap)
                        have hdz := hid hdf
                        clear  hdk haft hcl hdf hap
                        go_wp2
                        exact rthenK_n ⟨_, _, _, _, _, _, _, _, _, _, _, _, _, _, rfl, .inl ⟨rkd rfl hdz, hid (HB.out.trans ((Below.refl w9.heap.size w9).mono (Nat.le_trans hbw HB.out.size))), hid (fun h => (FA.out (runupd rfl h)).trans ((Below.refl w9.heap.size w9).mono (FA.out (runupd rfl h)).size)), hid (EX.out.below (Below.refl w9.heap.size w9)), rkf rfl f0 (fun h => by first | exact h | exact rfl), rkf rfl f1 (fun h => by first | exact h | exact rfl), rkf rfl f2 (fun h => by first | exact h | exact rfl), rkf rfl f3 (fun h => by first | exact h | exact rfl), rkf rfl f4 (fun h => by first | exact h | exact rfl), rkf rfl f5 (fun h => by first | exact h | exact rfl), rkf rfl f6 (fun h => by first | exact h | exact rfl), rkf rfl f7 (fun h => by first | exact h | exact rfl), rnf rfl, rkf rfl f9 (fun h => by first | exact h | exact rfl), rkf rfl f10 (fun h => by first | exact h | exact rfl), rkf rfl f11 (fun h => (by obtain ⟨g, e1, e2⟩ := h; exact ⟨g, e1, fun h15 => res_keep' (e2 (runupd rfl h15)) (Below.refl w9.heap.size w9) (lt_of_block (e2 (runupd rfl h15)))⟩)), rkf rfl f12 (fun h => own_belowS h (Below.refl w9.heap.size w9)), rkf rfl f13 (fun h => by first | exact h | exact rfl)⟩⟩
                      · rintro d ac w9 ⟨x96, x97, x98, x99, x100, x101, x102, x103, x104, x105, x106, x107, x108, x109, rfl, hI⟩ hcl hdk haft
                        rcases hI with ⟨hdf, HB, FA, EX, f0, f1, f2, f3, f4, f5, f6, f7, f8, f9, f10, f11, f12, f13⟩ | ⟨hdl, _⟩
                        rotate_left
                        · exact absurd ((hcl 10 _ rfl (hcl 11 _ rfl (hcl 12 _ rfl (hcl 14 _ rfl hdl ⟨12, .data⟩ (by simp) rfl) ⟨11, .data⟩ (by simp) rfl) ⟨10, .data⟩ (by simp) rfl) ⟨9, .data⟩ (by simp) rfl).symm.trans hdk) (by decide)
                        have h8 := haft ⟨8, .data⟩ (by simp) rfl
                        have hap : d 12 = false := by
                          cases hh : d 12 with
                          | false => rfl
                          | true => exact absurd ((hcl 10 _ rfl (hcl 11 _ rfl (hcl 12 _ rfl hh ⟨11, .data⟩ (by simp) rfl) ⟨10, .data⟩ (by simp) rfl) ⟨9, .data⟩ (by simp) rfl).symm.trans hdk) (by decide)
                        have HW := hid (FA.out hap)
                        obtain rfl := f8.out h8
                        have hdz := hid hdf
                        have c29 := cell_keep HW.out C2.out
                        have c39 := cell_keep HW.out C3.out
                        have c49 := cell_keep HW.out C4.out
                        have sl9 : g17 < w9.heap.size := Nat.lt_of_lt_of_le HSL.out HW.out.size
                        clear h8 hdk haft hcl hdf hap
                        go_wp2
                        exact rthenK_n ⟨_, _, _, _, _, _, _, _, _, _, _, _, _, _, rfl, .inl ⟨rkd rfl hdz, hid (HB.out.trans ((Below.refl w9.heap.size w9).mono (Nat.le_trans hbw HB.out.size))), hid (fun h => (FA.out (runupd rfl h)).trans ((Below.refl w9.heap.size w9).mono (FA.out (runupd rfl h)).size)), hid (EX.out.below (Below.refl w9.heap.size w9)), rkf rfl f0 (fun h => by first | exact h | exact rfl), rkf rfl f1 (fun h => by first | exact h | exact rfl), rkf rfl f2 (fun h => by first | exact h | exact rfl), rkf rfl f3 (fun h => by first | exact h | exact rfl), rkf rfl f4 (fun h => by first | exact h | exact rfl), rkf rfl f5 (fun h => by first | exact h | exact rfl), rkf rfl f6 (fun h => by first | exact h | exact rfl), rkf rfl f7 (fun h => by first | exact h | exact rfl), rkf rfl f8 (fun h => by first | exact h | exact rfl), rnf rfl, rkf rfl f10 (fun h => by first | exact h | exact rfl), rkf rfl f11 (fun h => (by obtain ⟨g, e1, e2⟩ := h; exact ⟨g, e1, fun h15 => res_keep' (e2 (runupd rfl h15)) (Below.refl w9.heap.size w9) (lt_of_block (e2 (runupd rfl h15)))⟩)), rkf rfl f12 (fun h => own_belowS h (Below.refl w9.heap.size w9)), rkf rfl f13 (fun h => by first | exact h | exact rfl)⟩⟩
                      · rintro d ac w9 ⟨x96, x97, x98, x99, x100, x101, x102, x103, x104, x105, x106, x107, x108, x109, rfl, hI⟩ hcl hdk haft
                        rcases hI with ⟨hdf, HB, FA, EX, f0, f1, f2, f3, f4, f5, f6, f7, f8, f9, f10, f11, f12, f13⟩ | ⟨hdl, _⟩
                        rotate_left
                        · exact absurd ((hcl 11 _ rfl (hcl 12 _ rfl (hcl 14 _ rfl hdl ⟨12, .data⟩ (by simp) rfl) ⟨11, .data⟩ (by simp) rfl) ⟨10, .data⟩ (by simp) rfl).symm.trans hdk) (by decide)
                        have h5 := haft ⟨5, .data⟩ (by simp) rfl
                        have h7 := haft ⟨7, .data⟩ (by simp) rfl
                        have h9 := haft ⟨9, .data⟩ (by simp) rfl
                        have hap : d 12 = false := by
                          cases hh : d 12 with
                          | false => rfl
                          | true => exact absurd ((hcl 11 _ rfl (hcl 12 _ rfl hh ⟨11, .data⟩ (by simp) rfl) ⟨10, .data⟩ (by simp) rfl).symm.trans hdk) (by decide)
                        have HW := hid (FA.out hap)
                        obtain rfl := f5.out h5
                        obtain rfl := f7.out h7
                        obtain rfl := f9.out h9
                        have hdz := hid hdf
                        clear h5 h7 h9 hdk haft hcl hdf hap
                        go_wp2
                        exact rthenK_n ⟨_, _, _, _, _, _, _, _, _, _, _, _, _, _, rfl, .inl ⟨rkd rfl hdz, hid (HB.out.trans ((Below.refl w9.heap.size w9).mono (Nat.le_trans hbw HB.out.size))), hid (fun h => (FA.out (runupd rfl h)).trans ((Below.refl w9.heap.size w9).mono (FA.out (runupd rfl h)).size)), hid (EX.out.below (Below.refl w9.heap.size w9)), rkf rfl f0 (fun h => by first | exact h | exact rfl), rkf rfl f1 (fun h => by first | exact h | exact rfl), rkf rfl f2 (fun h => by first | exact h | exact rfl), rkf rfl f3 (fun h => by first | exact h | exact rfl), rkf rfl f4 (fun h => by first | exact h | exact rfl), rkf rfl f5 (fun h => by first | exact h | exact rfl), rkf rfl f6 (fun h => by first | exact h | exact rfl), rkf rfl f7 (fun h => by first | exact h | exact rfl), rkf rfl f8 (fun h => by first | exact h | exact rfl), rkf rfl f9 (fun h => by first | exact h | exact rfl), rnf rfl, rkf rfl f11 (fun h => (by obtain ⟨g, e1, e2⟩ := h; exact ⟨g, e1, fun h15 => res_keep' (e2 (runupd rfl h15)) (Below.refl w9.heap.size w9) (lt_of_block (e2 (runupd rfl h15)))⟩)), rkf rfl f12 (fun h => own_belowS h (Below.refl w9.heap.size w9)), rkf rfl f13 (fun h => by first | exact h | exact rfl)⟩⟩
                      · rintro d ac w9 ⟨x96, x97, x98, x99, x100, x101, x102, x103, x104, x105, x106, x107, x108, x109, rfl, hI⟩ hcl hdk haft
                        rcases hI with ⟨hdf, HB, FA, EX, f0, f1, f2, f3, f4, f5, f6, f7, f8, f9, f10, f11, f12, f13⟩ | ⟨hdl, _⟩
                        rotate_left
                        · exact absurd ((hcl 12 _ rfl (hcl 14 _ rfl hdl ⟨12, .data⟩ (by simp) rfl) ⟨11, .data⟩ (by simp) rfl).symm.trans hdk) (by decide)
                        have h10 := haft ⟨10, .data⟩ (by simp) rfl
                        have hap : d 12 = false := by
                          cases hh : d 12 with
                          | false => rfl
                          | true => exact absurd ((hcl 12 _ rfl hh ⟨11, .data⟩ (by simp) rfl).symm.trans hdk) (by decide)
                        have HW := hid (FA.out hap)
                        obtain rfl := f10.out h10
                        have hdz := hid hdf
                        clear h10 hdk haft hcl hdf hap
                        go_wp2
                        exact rthenK_n ⟨_, _, _, _, _, _, _, _, _, _, _, _, _, _, rfl, .inl ⟨rkd rfl hdz, hid (HB.out.trans ((below_one w9 _).mono (Nat.le_trans hbw HB.out.size))), hid (fun h => (FA.out (runupd rfl h)).trans ((below_one w9 _).mono (FA.out (runupd rfl h)).size)), hid (EX.out.below (below_one w9 _)), rkf rfl f0 (fun h => by first | exact h | exact rfl), rkf rfl f1 (fun h => by first | exact h | exact rfl), rkf rfl f2 (fun h => by first | exact h | exact rfl), rkf rfl f3 (fun h => by first | exact h | exact rfl), rkf rfl f4 (fun h => by first | exact h | exact rfl), rkf rfl f5 (fun h => by first | exact h | exact rfl), rkf rfl f6 (fun h => by first | exact h | exact rfl), rkf rfl f7 (fun h => by first | exact h | exact rfl), rkf rfl f8 (fun h => by first | exact h | exact rfl), rkf rfl f9 (fun h => by first | exact h | exact rfl), rkf rfl f10 (fun h => by first | exact h | exact rfl), rnf ⟨_, rfl, fun _ => heap_alloc_new w9 _⟩, rkf rfl f12 (fun h => own_belowS h (below_one w9 _)), rkf rfl f13 (fun h => by first | exact h | exact rfl)⟩⟩
                      · rintro d ac w9 ⟨x96, x97, x98, x99, x100, x101, x102, x103, x104, x105, x106, x107, x108, x109, rfl, hI⟩ hcl hdk haft
                        rcases hI with ⟨hdf, HB, FA, EX, f0, f1, f2, f3, f4, f5, f6, f7, f8, f9, f10, f11, f12, f13⟩ | ⟨hdl, _⟩
                        rotate_left
                        · exact absurd ((hcl 14 _ rfl hdl ⟨12, .data⟩ (by simp) rfl).symm.trans hdk) (by decide)
                        have h1 := haft ⟨1, .data⟩ (by simp) rfl
                        have h11 := haft ⟨11, .data⟩ (by simp) rfl
                        have hap : d 12 = false := by
                          cases hh : d 12 with
                          | false => rfl
                          | true => exact absurd (hh.symm.trans hdk) (by decide)
                        have HW := hid (FA.out hap)
                        obtain rfl := f1.out h1
                        obtain ⟨g11, rfl, hg11⟩ := f11.out h11
                        have HG11 := hid (hg11 hap)
                        clear hg11
                        have hdz := hid hdf
                        clear h1 h11 hdk haft hcl hdf hap
                        have HU9 := hid (own_belowS HU.out HW.out)
                        go_wp2_with (at_builtin; refine wpList_append_own _ rfl _ _ 47 rfl (wo.heap.size + 1 + 1) 62 c0 _ 5 56 Tryd.underlying47 hc0 hc1 hc2 hc3 rfl (by decide) _ l (XS) rfl HU9.out ⟨g11, 0, none⟩ 1 1 [.string FZ, .int .i64 op, .int .i64 ck, .int .i64 cn, .string cs] rfl rfl (ren_cells HG11.out rfl) (ren_one rfl) (by unfold maxLen; omega) (by omega) (Nat.le_trans hbw HB.out.size) ?_; intro v8 w8 hown8 hg8 _)
                        exact rthenK_n ⟨_, _, _, _, _, _, _, _, _, _, _, _, _, _, rfl, .inl ⟨rkd rfl hdz, hid (HB.out.grown hg8 (Nat.le_trans hbw HB.out.size) (fun k e => (HU9.out.lt k e).1)), hid (fun h => absurd h (fun h => rupd_self h)), hid (EX.out.kept HU9.out (by decide) hg8), rkf rfl f0 (fun h => by first | exact h | exact rfl), rkf rfl f1 (fun h => by first | exact h | exact rfl), rkf rfl f2 (fun h => by first | exact h | exact rfl), rkf rfl f3 (fun h => by first | exact h | exact rfl), rkf rfl f4 (fun h => by first | exact h | exact rfl), rkf rfl f5 (fun h => by first | exact h | exact rfl), rkf rfl f6 (fun h => by first | exact h | exact rfl), rkf rfl f7 (fun h => by first | exact h | exact rfl), rkf rfl f8 (fun h => by first | exact h | exact rfl), rkf rfl f9 (fun h => by first | exact h | exact rfl), rkf rfl f10 (fun h => by first | exact h | exact rfl), rkf rfl f11 (fun h => (by obtain ⟨g, e1, _⟩ := h; exact ⟨g, e1, fun h15 => absurd h15 (fun h => rupd_self h)⟩)), rnf hown8, rkf rfl f13 (fun h => by first | exact h | exact rfl)⟩⟩
                      · rintro d ac w9 ⟨x96, x97, x98, x99, x100, x101, x102, x103, x104, x105, x106, x107, x108, x109, rfl, hI⟩ hcl hdk haft
                        rcases hI with ⟨hdf, HB, FA, EX, f0, f1, f2, f3, f4, f5, f6, f7, f8, f9, f10, f11, f12, f13⟩ | ⟨hdl, _⟩
                        rotate_left
                        · exact absurd ((hcl 14 _ rfl hdl ⟨13, .data⟩ (by simp) rfl).symm.trans hdk) (by decide)
                        have hdz := hid hdf
                        clear  hdk haft hcl hdf
                        go_wp2
                        exact rthenK_n ⟨_, _, _, _, _, _, _, _, _, _, _, _, _, _, rfl, .inl ⟨rkd rfl hdz, hid (HB.out.trans ((Below.refl w9.heap.size w9).mono (Nat.le_trans hbw HB.out.size))), hid (fun h => (FA.out (runupd rfl h)).trans ((Below.refl w9.heap.size w9).mono (FA.out (runupd rfl h)).size)), hid (EX.out.below (Below.refl w9.heap.size w9)), rkf rfl f0 (fun h => by first | exact h | exact rfl), rkf rfl f1 (fun h => by first | exact h | exact rfl), rkf rfl f2 (fun h => by first | exact h | exact rfl), rkf rfl f3 (fun h => by first | exact h | exact rfl), rkf rfl f4 (fun h => by first | exact h | exact rfl), rkf rfl f5 (fun h => by first | exact h | exact rfl), rkf rfl f6 (fun h => by first | exact h | exact rfl), rkf rfl f7 (fun h => by first | exact h | exact rfl), rkf rfl f8 (fun h => by first | exact h | exact rfl), rkf rfl f9 (fun h => by first | exact h | exact rfl), rkf rfl f10 (fun h => by first | exact h | exact rfl), rkf rfl f11 (fun h => (by obtain ⟨g, e1, e2⟩ := h; exact ⟨g, e1, fun h15 => res_keep' (e2 (runupd rfl h15)) (Below.refl w9.heap.size w9) (lt_of_block (e2 (runupd rfl h15)))⟩)), rkf rfl f12 (fun h => own_belowS h (Below.refl w9.heap.size w9)), rnf rfl⟩⟩
                      · rintro d ac w9 ⟨x96, x97, x98, x99, x100, x101, x102, x103, x104, x105, x106, x107, x108, x109, rfl, hI⟩ hcl hdk haft
                        rcases hI with ⟨hdf, HB, FA, EX, f0, f1, f2, f3, f4, f5, f6, f7, f8, f9, f10, f11, f12, f13⟩ | ⟨hdl, _⟩
                        rotate_left
                        · exact absurd (hdl.symm.trans hdk) (by decide)
                        have h13 := haft ⟨13, .data⟩ (by simp) rfl
                        have h12 := haft ⟨12, .data⟩ (by simp) rfl
                        obtain rfl := f13.out h13
                        have hap8 := hid (f12.out h12)
                        have hdz := hid hdf
                        have hp9 := res_keep' HBX.out HB.out HBXL.out
                        have p3 : w9.cell? ⟨wo.heap.size + 1, 1, none⟩ = some u5 := rcell hp9 rfl
                        have fz : w9.frozen? ⟨wo.heap.size + 1, 1, none⟩ = false := by simp [World.frozen?, hp9]
                        have HP9 := hid hp9
                        obtain ⟨g8, cap8, rfl⟩ := own_slice1 hap8.out
                        have hne : Value.ownBlock (.slice (some ⟨g8, 0, none⟩) (l + 1) cap8) ≠ some (wo.heap.size + 1) := fun e => by have := (hap8.out.lt _ e).1; have := HBXL.out; omega
                        have HNE := hid hne
                        clear hp9 hne
                        clear h13 h12 hdk haft hcl hdf
                        go_wp2
                        exact rthenK_n ⟨_, _, _, _, _, _, _, _, _, _, _, _, _, _, rfl, .inr ⟨rfl, hid (⟨_, heap_setCell_same w9 (wo.heap.size + 1) 1 _ _ _ HP9.out, ownsRow_setCell_other hap8.out (a := ⟨wo.heap.size + 1, 1, none⟩) HNE.out _, EX.out.far (ren_set w9 _ _ _) HBXL.out, (HB.out.mono (by have := HBXL.out; omega)).setCell (p := ⟨wo.heap.size + 1, 1, none⟩) (Nat.le_refl (wo.heap.size + 1)) _⟩)⟩⟩
                    case fin =>
                      rintro d ac w9 ⟨x96, x97, x98, x99, x100, x101, x102, x103, x104, x105, x106, x107, x108, x109, rfl, hI⟩ hall
                      rcases hI with ⟨hd, _⟩ | ⟨_, HE⟩
                      · exact absurd ((hall 14).symm.trans hd) (by decide)
                      clear hall
                      obtain ⟨v8, hp8, hown8, hx8, hb8⟩ := HE.out
                      have HP8 := hid hp8
                      rw [← HTK.out] at hown8
                      have HO8 := hid hown8
                      have HX8 := hid hx8
                      have HR8 := hid (res_keep' HR6.out hb8 (by omega))
                      have HB8 := hid (HB6.out.trans (hb8.mono (by omega)))
                      clear HE hp8 hown8 hb8 hx8
                      go_wp2
                      go_roundw
                      case rel => exact ⟨l + 1, v8, by omega, (by first | rfl | go_num), HP8, HX8, HO8, HR8, HB8⟩
                      case measure => simp [intOf]; omega
                  · have hke : l = cds.length := by have := HN2.out; omega
                    have hU := HU5.out
                    rw [List.take_of_length_le (by omega), hke, ← List.length_map (f := mapC f)] at hU
                    obtain ⟨TC, tcc, eu5, _, _⟩ := ren_cnds hU
                    obtain ⟨TA, tca, eux, _, _⟩ := ren_atms HX5.out (fun a ha => by
                      obtain ⟨b, hb, rfl⟩ := List.mem_map.1 ha
                      have := HTS.out b hb
                      simp only [mapA, List.length_map]; omega)
                    rw [List.length_map] at eu5 eux
                    have hml : cds.length = n2 := HN2.out
                    have hml2 : ats.length = n := HN.out
                    rw [hml] at eu5
                    rw [hml2] at eux
                    subst eu5 eux
                    have HUC := hid hU
                    clear hU HU5 hml hml2
                    have hgo : g5 < wo.heap.size := lt_of_block HP.out
                    have HP9 := hid (res_keep' HP.out HB5.out hgo)
                    have HUH9 := hid (own_belowS HUH.out HB5.out)
                    have HUR9 := hid (HUR.out.below HB5.out)
                    have HQ9 := hid (HQI.out.on HB5.out HQI.out.size)
                    have hws5 := HB5.out.size
                    obtain ⟨p0, p1, p2, p3, p4, plt⟩ := rbox HP9.out
                    obtain ⟨e0, e1⟩ := rcell2 HS5.out
                    obtain ⟨us, vs, hu0, hu1, hu2, hu3⟩ := HUR9.out
                    have hlk : ((rs.take k).map (mapR f)).length = k := by simp; omega
                    have hu2' := hu2
                    rw [hlk] at hu2'
                    have HU2 := hid hu2
                    have HU2' := hid hu2'
                    have HU0 := hid hu0
                    have HU1 := hid hu1
                    have HU3 := hid hu3
                    have HLK := hid hlk
                    clear hu0 hu1 hu2 hu3 hlk hu2' HUR9
                    go_wp2_with (at_builtin; refine wpList_append_new2 Tryd.underlying23 hr0 hr1 hr2 hr3 rfl (by decide) (by decide) rfl rfl rfl HU2'.out rfl rfl rfl rfl (by omega) (by omega) ?_; intro v8 w8 hown8 hg8; obtain ⟨g8, cap8, rfl⟩ := own_slice1 hown8; have hp8 := hid ((hg8.block g5 plt (fun e => by have := (HU2'.out.lt _ e.symm).1; omega)).trans HP9.out); have t8 := rcell (o := 3) (v := v) hp8.out rfl; have f8 : w8.frozen? ⟨g5, 3, none⟩ = false := (by simp [World.frozen?, hp8.out]); have pl8 := lt_of_block hp8.out)
                    have HP10 := hid (heap_setCell_same w8 g5 3 _ _ (.slice (some ⟨g8, 0, none⟩) (k + 1) cap8) hp8.out)
                    have HUR10 := hid ((OwnRls.push (r := mapR f ⟨ats, cds⟩) HU0.out HU1.out HU2.out HU3.out (HX5.out.mono (by omega)) (ren_mono HUC.out (by omega)) hg8 (by rw [HLK.out]) hown8).far (ren_set w8 g5 3 (.slice (some ⟨g8, 0, none⟩) (k + 1) cap8)) (by omega))
                    have HUH10 := hid (ren_far (HUH9.out.kept hg8 (ren_apart HUH9.out HU2.out (by decide))) (ren_set w8 g5 3 (.slice (some ⟨g8, 0, none⟩) (k + 1) cap8)) hgl)
                    have hgs8 := hg8.size
                    have HQ10 := hid (HQ9.out.on (((Below.refl (w.heap.size + 1 + 1) wr).grown hg8 (by have := HQ9.out.size; omega) (fun j e => by have := (HU2'.out.lt j e).1; omega)).setCell (p := ⟨g5, 3, none⟩) (by show w.heap.size + 1 + 1 ≤ g5; exact hg52) (.slice (some ⟨g8, 0, none⟩) (k + 1) cap8)) (Nat.le_refl _))
                    have hBw10 : BN ≤ (w8.setCell ⟨g5, 3, none⟩ (.slice (some ⟨g8, 0, none⟩) (k + 1) cap8)).heap.size := by simp [World.setCell]; omega
                    rw [← HTKR.out] at HUR10
                    clear hown8 hg8 hp8 t8 f8 HU2 HU2' HU0 HU1 HU3 HP9 HUH9 HQ9 HP HUH HUR
                    go_wp2
                    go_roundw
                    case rel => exact ⟨k + 1, _, by omega, (by first | rfl | go_num), HP10, HUH10, HUR10, HQ10, hBw10⟩
                    case measure => simp [intOf]; omega
          · have hke : k = rs.length := by omega
            have hU := HUR.out
            rw [List.take_of_length_le (by omega)] at hU
            have HRR := hid hU
            obtain ⟨p0, p1, p2, p3, p4, plt⟩ := rbox HP.out
            clear hU HUR hke
            go_wp2
            clear q0 q1 q2 q3 q4 qz qlt hbel hsz p0 p1 p2 p3 p4 plt
            go_loopw [121] (fun i wr => ∃ (j : Nat) (z : Value), j ≤ os.length ∧ i = .int .i64 j ∧ Hid (wr.heap[g5]? = some (.cells #[u, .int .i64 ga, .string FY, v, z] 26 (0, 0))) ∧ Hid (wr.ownsRow BN 9 1 u hd.length ((hd.map f).map nmV)) ∧ Hid (OwnRls wr BN v (rs.map (mapR f))) ∧ Hid (wr.ownsRow BN 44 2 z j (((os.take j).map (mapKy f)).flatMap cellsK)) ∧ Hid (QIn w (.slice A hd.length ch) (.int .i64 ga) (.string Y) (.slice R rs.length cr) (.slice O os.length co) 26 (.cells #[.slice none 0 0, .int .i64 0, .string ⟨#[]⟩, .slice none 0 0, .slice none 0 0] 26)  wr) ∧ BN ≤ wr.heap.size) (fun i _ => os.length - (intOf i).toNat)
            case atStart => exact ⟨0, .slice none 0 0, by omega, rfl, HP, HUH, HRR, hid (World.ownsRow_nil _ _ _ _), HQI, hBw⟩
            case round =>
              clear HP HUH HRR HQI hBw hlt hk
              obtain ⟨l, u6, hl, rfl, HP6, HUH6, HUR6, HU6, HQ6, hBw6⟩ := hrel
              obtain ⟨q0, q1, q2, q3, q4, qz, qlt, hbel⟩ := HQ6.out.cells
              have hsz := hbel.size
              have hom := HSM.out.o
              simp only at hom
              by_cases hlt : l < os.length
              · obtain ⟨b3, o3, rfl, hc3⟩ := HOr.out (by omega)
                obtain ⟨d0, d1⟩ := hc3 l hlt
                replace d0 := cell_keep hbel d0
                replace d1 := cell_keep hbel d1
                have hwv := HWF.out.order os[l] (List.getElem_mem hlt)
                have htk : ((os.take (l + 1)).map (mapKy f)).flatMap cellsK = ((os.take l).map (mapKy f)).flatMap cellsK ++ cellsK (mapKy f os[l]) := by rw [List.take_succ_eq_append_getElem hlt, List.map_append, List.flatMap_append]; simp
                obtain ⟨t, et⟩ : ∃ t, os[l] = t := ⟨_, rfl⟩
                rw [et] at d0 d1 hwv htk
                obtain ⟨v2, ds⟩ := t
                simp only [mapKy, cellsK] at d0 d1 hwv htk
                obtain ⟨Z, hZ, hZd, _⟩ := nm v2
                rw [hZ] at d0
                have hZs := maxLen_of hZd hwv
                obtain ⟨FZ, hFZ⟩ : ∃ X : ByteArray, (⟨(f Z.data.toList).toArray⟩ : ByteArray) = X := ⟨_, rfl⟩
                have hCZ : ∀ W, Below w.heap.size w W → Hid (Calls Tryd.prog 44 #[.string Z, .pointer (some ⟨gm, 0, none⟩)] W fun e w' => e = .returned (.string FZ) ∧ Below W.heap.size W w') := fun W h => hid (by have := (HRN.out W Z h hZs).out; rw [hFZ] at this; exact this)
                have HCZ := hid hCZ
                clear hCZ
                rw [← hZd, hFZ] at htk
                have HTK := hid htk
                clear htk hZ hZd hFZ et hc3 hwv
                have h0 := heap_alloc_new wr (.cells #[.string Z, .bool ds] 44)
                have h1 := below_one wr (.cells #[.string Z, .bool ds] 44)
                have HBX := hid (res_keep' HP6.out h1 (lt_of_block HP6.out))
                have HU := hid (own_belowS HU6.out h1)
                have HX := hid (⟨own_belowS HUH6.out h1, HUR6.out.below h1⟩ : World.ownsRow (wr.alloc (.cells #[.string Z, .bool ds] 44)) BN 9 1 u hd.length ((hd.map f).map nmV) ∧ OwnRls (wr.alloc (.cells #[.string Z, .bool ds] 44)) BN v (rs.map (mapR f)))
                have HBE := hid (hbel.trans (h1.mono hsz))
                have HQ7 := hid (HQ6.out.on h1 HQ6.out.size)
                have hBw7 : BN ≤ (wr.alloc (.cells #[.string Z, .bool ds] 44)).heap.size := Nat.le_trans hBw6 h1.size
                have H0 := hid h0
                clear h0 h1 HP6 HU6 HUH6 HUR6 HQ6
                go_upto_region 32 with fail
                clear d0 d1 hbel hsz q0 q1 q2 q3 q4 qz qlt
                generalize wr.heap.size = g19 at *
                generalize wr.alloc (.cells #[.string Z, .bool ds] 44) = wa at *
                have C0 := hid (rcell (o := 0) H0.out rfl)
                have C1 := hid (rcell (o := 1) H0.out rfl)
                have HSL := hid (lt_of_block H0.out)
                have HBXL := hid hgl
                obtain ⟨NL, hNL⟩ : ∃ l : List Value, (hd.map f).map nmV = l := ⟨_, rfl⟩
                rw [hNL] at HX
                have HNL := hid hNL
                clear H0 hNL
                obtain ⟨XS, hXS⟩ : ∃ xl : List Value, ((os.take l).map (mapKy f)).flatMap cellsK = xl := ⟨_, rfl⟩
                rw [hXS] at HU HTK
                have HXS := hid hXS
                clear hXS
                refine wp_region_inv2 (fun d ac w9 => ∃ x125 x126 x127 x128 x129 x130 x131 x132 x133 x134 x135 x136 : Value, ac = { tmps := List.toArray ((Value.agg #[Value.slice A hd.length ch, Value.int IntKind.i64 ga, Value.string Y, Value.slice R rs.length cr, Value.slice (some { block := b3, off := o3 }) os.length co]) :: (Value.func (Fn.func 44) #[] #[Value.pointer (some { block := gm, off := 0 })]) :: (Value.pointer (some { block := w.heap.size, off := 0 })) :: undef :: (Value.pointer (some { block := w.heap.size + 1, off := 0 })) :: (Value.pointer (some { block := g5, off := 0 })) :: undef :: u7 :: undef :: u9 :: u10 :: undef :: u12 :: u13 :: undef :: u15 :: undef :: u17 :: undef :: (Value.pointer (some { block := g19, off := 0 })) :: x20 :: x21 :: x22 :: x23 :: x24 :: x25 :: x26 :: (Value.pointer (some { block := w.heap.size, off := 0 })) :: (Value.slice A hd.length ch) :: (Value.int IntKind.i64 ↑hd.length) :: (Value.int IntKind.i64 ↑k1) :: (Value.bool false) :: u32 :: u33 :: u34 :: u35 :: u36 :: u37 :: u38 :: u39 :: u40 :: u41 :: u42 :: (Value.pointer (some { block := w.heap.size, off := 3 })) :: (Value.slice R rs.length cr) :: (Value.int IntKind.i64 ↑rs.length) :: (Value.int IntKind.i64 ↑k) :: (Value.bool false) :: u48 :: u49 :: u50 :: u51 :: u52 :: u53 :: u54 :: u55 :: u56 :: u57 :: u58 :: u59 :: u60 :: u61 :: u62 :: u63 :: u64 :: u65 :: u66 :: u67 :: u68 :: u69 :: u70 :: u71 :: u72 :: u73 :: u74 :: u75 :: u76 :: u77 :: u78 :: u79 :: u80 :: u81 :: u82 :: u83 :: u84 :: u85 :: u86 :: u87 :: u88 :: u89 :: u90 :: u91 :: u92 :: u93 :: u94 :: u95 :: u96 :: u97 :: u98 :: u99 :: u100 :: u101 :: u102 :: u103 :: u104 :: u105 :: u106 :: u107 :: u108 :: u109 :: u110 :: u111 :: u112 :: u113 :: u114 :: u115 :: u116 :: u117 :: (Value.pointer (some { block := w.heap.size, off := 4 })) :: (Value.slice (some { block := b3, off := o3 }) os.length co) :: (Value.int IntKind.i64 ↑os.length) :: (Value.int IntKind.i64 ↑l) :: (Value.bool true) :: (Value.pointer (some { block := b3, off := o3 + l * 2 })) :: (Value.agg #[Value.string Z, Value.bool ds]) :: x125 :: x126 :: x127 :: x128 :: x129 :: x130 :: x131 :: x132 :: x133 :: x134 :: x135 :: x136 :: u137 :: undef :: []), defers := [] } ∧ ((d 12 = false ∧ Hid (Below (BN) wa w9) ∧ Hid (d 10 = false → Below wa.heap.size wa w9) ∧ Hid ((w9.ownsRow BN 9 1 u hd.length NL ∧ OwnRls w9 BN v (rs.map (mapR f)))) ∧ Hid (d 0 = true → x125 = .pointer (some ⟨g5, 4, none⟩)) ∧ Hid (d 1 = true → x126 = u6) ∧ Hid (d 2 = true → x127 = .func (.func 44) #[] #[.pointer (some ⟨gm, 0, none⟩)]) ∧ Hid (d 3 = true → x128 = .pointer (some ⟨g19, 0, none⟩)) ∧ Hid (d 4 = true → x129 = .string Z) ∧ Hid (d 5 = true → x130 = .string FZ) ∧ Hid (d 6 = true → x131 = .pointer (some ⟨g19, 1, none⟩)) ∧ Hid (d 7 = true → x132 = .bool ds) ∧ Hid (d 8 = true → x133 = .agg #[.string FZ, .bool ds]) ∧ Hid (d 9 = true → ∃ g, x134 = .slice (some ⟨g, 0, none⟩) 1 1 ∧ (d 10 = false → w9.heap[g]? = some (.cells #[.string FZ, .bool ds] 44 (0, 0)))) ∧ Hid (d 10 = true → w9.ownsRow (BN) 44 2 x135 (l + 1) (XS ++ [.string FZ, .bool ds])) ∧ Hid (d 11 = true → x136 = .pointer (some ⟨g5, 4, none⟩))) ∨ (d 12 = true ∧ Hid (∃ v8, w9.heap[g5]? = some (.cells #[u, .int .i64 ga, .string FY, v, v8] 26 (0, 0)) ∧ w9.ownsRow (BN) 44 2 v8 (l + 1) (XS ++ [.string FZ, .bool ds]) ∧ (w9.ownsRow BN 9 1 u hd.length NL ∧ OwnRls w9 BN v (rs.map (mapR f))) ∧ Below (g5) wa w9)))) (by kernel_rfl) (by kernel_rfl) ?h0 ?hst ?fin
                case h0 => exact ⟨_, _, _, _, _, _, _, _, _, _, _, _, rfl, .inl ⟨rfl, hid (Below.drew (Below.refl _ _)), hid (fun _ => Below.drew (Below.refl _ _)), hid (⟨own_belowS HX.out.1 (Below.drew (Below.refl _ _)), HX.out.2.below (Below.drew (Below.refl _ _))⟩), hid (fun h => absurd h (by decide)), hid (fun h => absurd h (by decide)), hid (fun h => absurd h (by decide)), hid (fun h => absurd h (by decide)), hid (fun h => absurd h (by decide)), hid (fun h => absurd h (by decide)), hid (fun h => absurd h (by decide)), hid (fun h => absurd h (by decide)), hid (fun h => absurd h (by decide)), hid (fun h => absurd h (by decide)), hid (fun h => absurd h (by decide)), hid (fun h => absurd h (by decide))⟩⟩
                case hst =>
                  refine ⟨?_, ?_, ?_, ?_, ?_, ?_, ?_, ?_, ?_, ?_, ?_, ?_, ?_, trivial⟩
                  · rintro d ac w9 ⟨x125, x126, x127, x128, x129, x130, x131, x132, x133, x134, x135, x136, rfl, hI⟩ hcl hdk haft
                    rcases hI with ⟨hdf, HB, FA, EX, f0, f1, f2, f3, f4, f5, f6, f7, f8, f9, f10, f11⟩ | ⟨hdl, _⟩
                    rotate_left
                    · exact absurd ((hcl 1 _ rfl (hcl 10 _ rfl (hcl 12 _ rfl hdl ⟨10, .data⟩ (by simp) rfl) ⟨1, .data⟩ (by simp) rfl) ⟨0, .data⟩ (by simp) rfl).symm.trans hdk) (by decide)
                    have hap : d 10 = false := by
                      cases hh : d 10 with
                      | false => rfl
                      | true => exact absurd ((hcl 1 _ rfl (hcl 10 _ rfl hh ⟨1, .data⟩ (by simp) rfl) ⟨0, .data⟩ (by simp) rfl).symm.trans hdk) (by decide)
                    have HW := hid (FA.out hap)
                    have hdz := hid hdf
                    clear  hdk haft hcl hdf hap
                    go_wp2
                    exact rthenK_n ⟨_, _, _, _, _, _, _, _, _, _, _, _, rfl, .inl ⟨rkd rfl hdz, hid (HB.out.trans ((Below.refl w9.heap.size w9).mono (Nat.le_trans hBw7 HB.out.size))), hid (fun h => (FA.out (runupd rfl h)).trans ((Below.refl w9.heap.size w9).mono (FA.out (runupd rfl h)).size)), hid (⟨own_belowS EX.out.1 (Below.refl w9.heap.size w9), EX.out.2.below (Below.refl w9.heap.size w9)⟩), rnf rfl, rkf rfl f1 (fun h => by first | exact h | exact rfl), rkf rfl f2 (fun h => by first | exact h | exact rfl), rkf rfl f3 (fun h => by first | exact h | exact rfl), rkf rfl f4 (fun h => by first | exact h | exact rfl), rkf rfl f5 (fun h => by first | exact h | exact rfl), rkf rfl f6 (fun h => by first | exact h | exact rfl), rkf rfl f7 (fun h => by first | exact h | exact rfl), rkf rfl f8 (fun h => by first | exact h | exact rfl), rkf rfl f9 (fun h => (by obtain ⟨g, e1, e2⟩ := h; exact ⟨g, e1, fun h15 => res_keep' (e2 (runupd rfl h15)) (Below.refl w9.heap.size w9) (lt_of_block (e2 (runupd rfl h15)))⟩)), rkf rfl f10 (fun h => own_belowS h (Below.refl w9.heap.size w9)), rkf rfl f11 (fun h => by first | exact h | exact rfl)⟩⟩
                  · rintro d ac w9 ⟨x125, x126, x127, x128, x129, x130, x131, x132, x133, x134, x135, x136, rfl, hI⟩ hcl hdk haft
                    rcases hI with ⟨hdf, HB, FA, EX, f0, f1, f2, f3, f4, f5, f6, f7, f8, f9, f10, f11⟩ | ⟨hdl, _⟩
                    rotate_left
                    · exact absurd ((hcl 10 _ rfl (hcl 12 _ rfl hdl ⟨10, .data⟩ (by simp) rfl) ⟨1, .data⟩ (by simp) rfl).symm.trans hdk) (by decide)
                    have h0 := haft ⟨0, .data⟩ (by simp) rfl
                    have hap : d 10 = false := by
                      cases hh : d 10 with
                      | false => rfl
                      | true => exact absurd ((hcl 10 _ rfl hh ⟨1, .data⟩ (by simp) rfl).symm.trans hdk) (by decide)
                    have HW := hid (FA.out hap)
                    obtain rfl := f0.out h0
                    have hdz := hid hdf
                    have hp9 := res_keep' HBX.out HB.out HBXL.out
                    have r0 := rcell (o := 4) (v := u6) hp9 rfl
                    have rl := lt_of_block hp9
                    clear hp9
                    clear h0 hdk haft hcl hdf hap
                    go_wp2
                    exact rthenK_n ⟨_, _, _, _, _, _, _, _, _, _, _, _, rfl, .inl ⟨rkd rfl hdz, hid (HB.out.trans ((Below.refl w9.heap.size w9).mono (Nat.le_trans hBw7 HB.out.size))), hid (fun h => (FA.out (runupd rfl h)).trans ((Below.refl w9.heap.size w9).mono (FA.out (runupd rfl h)).size)), hid (⟨own_belowS EX.out.1 (Below.refl w9.heap.size w9), EX.out.2.below (Below.refl w9.heap.size w9)⟩), rkf rfl f0 (fun h => by first | exact h | exact rfl), rnf rfl, rkf rfl f2 (fun h => by first | exact h | exact rfl), rkf rfl f3 (fun h => by first | exact h | exact rfl), rkf rfl f4 (fun h => by first | exact h | exact rfl), rkf rfl f5 (fun h => by first | exact h | exact rfl), rkf rfl f6 (fun h => by first | exact h | exact rfl), rkf rfl f7 (fun h => by first | exact h | exact rfl), rkf rfl f8 (fun h => by first | exact h | exact rfl), rkf rfl f9 (fun h => (by obtain ⟨g, e1, e2⟩ := h; exact ⟨g, e1, fun h15 => res_keep' (e2 (runupd rfl h15)) (Below.refl w9.heap.size w9) (lt_of_block (e2 (runupd rfl h15)))⟩)), rkf rfl f10 (fun h => own_belowS h (Below.refl w9.heap.size w9)), rkf rfl f11 (fun h => by first | exact h | exact rfl)⟩⟩
                  · rintro d ac w9 ⟨x125, x126, x127, x128, x129, x130, x131, x132, x133, x134, x135, x136, rfl, hI⟩ hcl hdk haft
                    rcases hI with ⟨hdf, HB, FA, EX, f0, f1, f2, f3, f4, f5, f6, f7, f8, f9, f10, f11⟩ | ⟨hdl, _⟩
                    rotate_left
                    · exact absurd ((hcl 5 _ rfl (hcl 8 _ rfl (hcl 9 _ rfl (hcl 10 _ rfl (hcl 12 _ rfl hdl ⟨10, .data⟩ (by simp) rfl) ⟨9, .data⟩ (by simp) rfl) ⟨8, .data⟩ (by simp) rfl) ⟨5, .data⟩ (by simp) rfl) ⟨2, .data⟩ (by simp) rfl).symm.trans hdk) (by decide)
                    have hap : d 10 = false := by
                      cases hh : d 10 with
                      | false => rfl
                      | true => exact absurd ((hcl 5 _ rfl (hcl 8 _ rfl (hcl 9 _ rfl (hcl 10 _ rfl hh ⟨9, .data⟩ (by simp) rfl) ⟨8, .data⟩ (by simp) rfl) ⟨5, .data⟩ (by simp) rfl) ⟨2, .data⟩ (by simp) rfl).symm.trans hdk) (by decide)
                    have HW := hid (FA.out hap)
                    have hdz := hid hdf
                    clear  hdk haft hcl hdf hap
                    go_wp2
                    exact rthenK_n ⟨_, _, _, _, _, _, _, _, _, _, _, _, rfl, .inl ⟨rkd rfl hdz, hid (HB.out.trans ((Below.refl w9.heap.size w9).mono (Nat.le_trans hBw7 HB.out.size))), hid (fun h => (FA.out (runupd rfl h)).trans ((Below.refl w9.heap.size w9).mono (FA.out (runupd rfl h)).size)), hid (⟨own_belowS EX.out.1 (Below.refl w9.heap.size w9), EX.out.2.below (Below.refl w9.heap.size w9)⟩), rkf rfl f0 (fun h => by first | exact h | exact rfl), rkf rfl f1 (fun h => by first | exact h | exact rfl), rnf rfl, rkf rfl f3 (fun h => by first | exact h | exact rfl), rkf rfl f4 (fun h => by first | exact h | exact rfl), rkf rfl f5 (fun h => by first | exact h | exact rfl), rkf rfl f6 (fun h => by first | exact h | exact rfl), rkf rfl f7 (fun h => by first | exact h | exact rfl), rkf rfl f8 (fun h => by first | exact h | exact rfl), rkf rfl f9 (fun h => (by obtain ⟨g, e1, e2⟩ := h; exact ⟨g, e1, fun h15 => res_keep' (e2 (runupd rfl h15)) (Below.refl w9.heap.size w9) (lt_of_block (e2 (runupd rfl h15)))⟩)), rkf rfl f10 (fun h => own_belowS h (Below.refl w9.heap.size w9)), rkf rfl f11 (fun h => by first | exact h | exact rfl)⟩⟩
                  · rintro d ac w9 ⟨x125, x126, x127, x128, x129, x130, x131, x132, x133, x134, x135, x136, rfl, hI⟩ hcl hdk haft
                    rcases hI with ⟨hdf, HB, FA, EX, f0, f1, f2, f3, f4, f5, f6, f7, f8, f9, f10, f11⟩ | ⟨hdl, _⟩
                    rotate_left
                    · exact absurd ((hcl 4 _ rfl (hcl 5 _ rfl (hcl 8 _ rfl (hcl 9 _ rfl (hcl 10 _ rfl (hcl 12 _ rfl hdl ⟨10, .data⟩ (by simp) rfl) ⟨9, .data⟩ (by simp) rfl) ⟨8, .data⟩ (by simp) rfl) ⟨5, .data⟩ (by simp) rfl) ⟨4, .data⟩ (by simp) rfl) ⟨3, .data⟩ (by simp) rfl).symm.trans hdk) (by decide)
                    have hap : d 10 = false := by
                      cases hh : d 10 with
                      | false => rfl
                      | true => exact absurd ((hcl 4 _ rfl (hcl 5 _ rfl (hcl 8 _ rfl (hcl 9 _ rfl (hcl 10 _ rfl hh ⟨9, .data⟩ (by simp) rfl) ⟨8, .data⟩ (by simp) rfl) ⟨5, .data⟩ (by simp) rfl) ⟨4, .data⟩ (by simp) rfl) ⟨3, .data⟩ (by simp) rfl).symm.trans hdk) (by decide)
                    have HW := hid (FA.out hap)
                    have hdz := hid hdf
                    clear  hdk haft hcl hdf hap
                    go_wp2
                    exact rthenK_n ⟨_, _, _, _, _, _, _, _, _, _, _, _, rfl, .inl ⟨rkd rfl hdz, hid (HB.out.trans ((Below.refl w9.heap.size w9).mono (Nat.le_trans hBw7 HB.out.size))), hid (fun h => (FA.out (runupd rfl h)).trans ((Below.refl w9.heap.size w9).mono (FA.out (runupd rfl h)).size)), hid (⟨own_belowS EX.out.1 (Below.refl w9.heap.size w9), EX.out.2.below (Below.refl w9.heap.size w9)⟩), rkf rfl f0 (fun h => by first | exact h | exact rfl), rkf rfl f1 (fun h => by first | exact h | exact rfl), rkf rfl f2 (fun h => by first | exact h | exact rfl), rnf rfl, rkf rfl f4 (fun h => by first | exact h | exact rfl), rkf rfl f5 (fun h => by first | exact h | exact rfl), rkf rfl f6 (fun h => by first | exact h | exact rfl), rkf rfl f7 (fun h => by first | exact h | exact rfl), rkf rfl f8 (fun h => by first | exact h | exact rfl), rkf rfl f9 (fun h => (by obtain ⟨g, e1, e2⟩ := h; exact ⟨g, e1, fun h15 => res_keep' (e2 (runupd rfl h15)) (Below.refl w9.heap.size w9) (lt_of_block (e2 (runupd rfl h15)))⟩)), rkf rfl f10 (fun h => own_belowS h (Below.refl w9.heap.size w9)), rkf rfl f11 (fun h => by first | exact h | exact rfl)⟩⟩
                  · rintro d ac w9 ⟨x125, x126, x127, x128, x129, x130, x131, x132, x133, x134, x135, x136, rfl, hI⟩ hcl hdk haft
                    rcases hI with ⟨hdf, HB, FA, EX, f0, f1, f2, f3, f4, f5, f6, f7, f8, f9, f10, f11⟩ | ⟨hdl, _⟩
                    rotate_left
                    · exact absurd ((hcl 5 _ rfl (hcl 8 _ rfl (hcl 9 _ rfl (hcl 10 _ rfl (hcl 12 _ rfl hdl ⟨10, .data⟩ (by simp) rfl) ⟨9, .data⟩ (by simp) rfl) ⟨8, .data⟩ (by simp) rfl) ⟨5, .data⟩ (by simp) rfl) ⟨4, .data⟩ (by simp) rfl).symm.trans hdk) (by decide)
                    have h3 := haft ⟨3, .data⟩ (by simp) rfl
                    have hap : d 10 = false := by
                      cases hh : d 10 with
                      | false => rfl
                      | true => exact absurd ((hcl 5 _ rfl (hcl 8 _ rfl (hcl 9 _ rfl (hcl 10 _ rfl hh ⟨9, .data⟩ (by simp) rfl) ⟨8, .data⟩ (by simp) rfl) ⟨5, .data⟩ (by simp) rfl) ⟨4, .data⟩ (by simp) rfl).symm.trans hdk) (by decide)
                    have HW := hid (FA.out hap)
                    obtain rfl := f3.out h3
                    have hdz := hid hdf
                    have c09 := cell_keep HW.out C0.out
                    have sl9 : g19 < w9.heap.size := Nat.lt_of_lt_of_le HSL.out HW.out.size
                    clear h3 hdk haft hcl hdf hap
                    go_wp2
                    exact rthenK_n ⟨_, _, _, _, _, _, _, _, _, _, _, _, rfl, .inl ⟨rkd rfl hdz, hid (HB.out.trans ((Below.refl w9.heap.size w9).mono (Nat.le_trans hBw7 HB.out.size))), hid (fun h => (FA.out (runupd rfl h)).trans ((Below.refl w9.heap.size w9).mono (FA.out (runupd rfl h)).size)), hid (⟨own_belowS EX.out.1 (Below.refl w9.heap.size w9), EX.out.2.below (Below.refl w9.heap.size w9)⟩), rkf rfl f0 (fun h => by first | exact h | exact rfl), rkf rfl f1 (fun h => by first | exact h | exact rfl), rkf rfl f2 (fun h => by first | exact h | exact rfl), rkf rfl f3 (fun h => by first | exact h | exact rfl), rnf rfl, rkf rfl f5 (fun h => by first | exact h | exact rfl), rkf rfl f6 (fun h => by first | exact h | exact rfl), rkf rfl f7 (fun h => by first | exact h | exact rfl), rkf rfl f8 (fun h => by first | exact h | exact rfl), rkf rfl f9 (fun h => (by obtain ⟨g, e1, e2⟩ := h; exact ⟨g, e1, fun h15 => res_keep' (e2 (runupd rfl h15)) (Below.refl w9.heap.size w9) (lt_of_block (e2 (runupd rfl h15)))⟩)), rkf rfl f10 (fun h => own_belowS h (Below.refl w9.heap.size w9)), rkf rfl f11 (fun h => by first | exact h | exact rfl)⟩⟩
                  · rintro d ac w9 ⟨x125, x126, x127, x128, x129, x130, x131, x132, x133, x134, x135, x136, rfl, hI⟩ hcl hdk haft
                    rcases hI with ⟨hdf, HB, FA, EX, f0, f1, f2, f3, f4, f5, f6, f7, f8, f9, f10, f11⟩ | ⟨hdl, _⟩
                    rotate_left
                    · exact absurd ((hcl 8 _ rfl (hcl 9 _ rfl (hcl 10 _ rfl (hcl 12 _ rfl hdl ⟨10, .data⟩ (by simp) rfl) ⟨9, .data⟩ (by simp) rfl) ⟨8, .data⟩ (by simp) rfl) ⟨5, .data⟩ (by simp) rfl).symm.trans hdk) (by decide)
                    have h2 := haft ⟨2, .data⟩ (by simp) rfl
                    have h4 := haft ⟨4, .data⟩ (by simp) rfl
                    have hap : d 10 = false := by
                      cases hh : d 10 with
                      | false => rfl
                      | true => exact absurd ((hcl 8 _ rfl (hcl 9 _ rfl (hcl 10 _ rfl hh ⟨9, .data⟩ (by simp) rfl) ⟨8, .data⟩ (by simp) rfl) ⟨5, .data⟩ (by simp) rfl).symm.trans hdk) (by decide)
                    have HW := hid (FA.out hap)
                    obtain rfl := f2.out h2
                    obtain rfl := f4.out h4
                    have hdz := hid hdf
                    clear h2 h4 hdk haft hcl hdf hap
                    go_wp2_with fail
                    refine (HCZ.out w9 (HBE.out.trans (HW.out.mono HBE.out.size))).out.mono ?_
                    rintro e w8 ⟨rfl, b8⟩
                    go_wp2
                    exact rthenK_n ⟨_, _, _, _, _, _, _, _, _, _, _, _, rfl, .inl ⟨rkd rfl hdz, hid (HB.out.trans (b8.mono (Nat.le_trans hBw7 HB.out.size))), hid (fun h => (FA.out (runupd rfl h)).trans (b8.mono (FA.out (runupd rfl h)).size)), hid (⟨own_belowS EX.out.1 b8, EX.out.2.below b8⟩), rkf rfl f0 (fun h => by first | exact h | exact rfl), rkf rfl f1 (fun h => by first | exact h | exact rfl), rkf rfl f2 (fun h => by first | exact h | exact rfl), rkf rfl f3 (fun h => by first | exact h | exact rfl), rkf rfl f4 (fun h => by first | exact h | exact rfl), rnf rfl, rkf rfl f6 (fun h => by first | exact h | exact rfl), rkf rfl f7 (fun h => by first | exact h | exact rfl), rkf rfl f8 (fun h => by first | exact h | exact rfl), rkf rfl f9 (fun h => (by obtain ⟨g, e1, e2⟩ := h; exact ⟨g, e1, fun h15 => res_keep' (e2 (runupd rfl h15)) b8 (lt_of_block (e2 (runupd rfl h15)))⟩)), rkf rfl f10 (fun h => own_belowS h b8), rkf rfl f11 (fun h => by first | exact h | exact rfl)⟩⟩
                  · rintro d ac w9 ⟨x125, x126, x127, x128, x129, x130, x131, x132, x133, x134, x135, x136, rfl, hI⟩ hcl hdk haft
                    rcases hI with ⟨hdf, HB, FA, EX, f0, f1, f2, f3, f4, f5, f6, f7, f8, f9, f10, f11⟩ | ⟨hdl, _⟩
                    rotate_left
                    · exact absurd ((hcl 7 _ rfl (hcl 8 _ rfl (hcl 9 _ rfl (hcl 10 _ rfl (hcl 12 _ rfl hdl ⟨10, .data⟩ (by simp) rfl) ⟨9, .data⟩ (by simp) rfl) ⟨8, .data⟩ (by simp) rfl) ⟨7, .data⟩ (by simp) rfl) ⟨6, .data⟩ (by simp) rfl).symm.trans hdk) (by decide)
                    have hap : d 10 = false := by
                      cases hh : d 10 with
                      | false => rfl
                      | true => exact absurd ((hcl 7 _ rfl (hcl 8 _ rfl (hcl 9 _ rfl (hcl 10 _ rfl hh ⟨9, .data⟩ (by simp) rfl) ⟨8, .data⟩ (by simp) rfl) ⟨7, .data⟩ (by simp) rfl) ⟨6, .data⟩ (by simp) rfl).symm.trans hdk) (by decide)
                    have HW := hid (FA.out hap)
                    have hdz := hid hdf
                    clear  hdk haft hcl hdf hap
                    go_wp2
                    exact rthenK_n ⟨_, _, _, _, _, _, _, _, _, _, _, _, rfl, .inl ⟨rkd rfl hdz, hid (HB.out.trans ((Below.refl w9.heap.size w9).mono (Nat.le_trans hBw7 HB.out.size))), hid (fun h => (FA.out (runupd rfl h)).trans ((Below.refl w9.heap.size w9).mono (FA.out (runupd rfl h)).size)), hid (⟨own_belowS EX.out.1 (Below.refl w9.heap.size w9), EX.out.2.below (Below.refl w9.heap.size w9)⟩), rkf rfl f0 (fun h => by first | exact h | exact rfl), rkf rfl f1 (fun h => by first | exact h | exact rfl), rkf rfl f2 (fun h => by first | exact h | exact rfl), rkf rfl f3 (fun h => by first | exact h | exact rfl), rkf rfl f4 (fun h => by first | exact h | exact rfl), rkf rfl f5 (fun h => by first | exact h | exact rfl), rnf rfl, rkf rfl f7 (fun h => by first | exact h | exact rfl), rkf rfl f8 (fun h => by first | exact h | exact rfl), rkf rfl f9 (fun h => (by obtain ⟨g, e1, e2⟩ := h; exact ⟨g, e1, fun h15 => res_keep' (e2 (runupd rfl h15)) (Below.refl w9.heap.size w9) (lt_of_block (e2 (runupd rfl h15)))⟩)), rkf rfl f10 (fun h => own_belowS h (Below.refl w9.heap.size w9)), rkf rfl f11 (fun h => by first | exact h | exact rfl)⟩⟩
                  · rintro d ac w9 ⟨x125, x126, x127, x128, x129, x130, x131, x132, x133, x134, x135, x136, rfl, hI⟩ hcl hdk haft
                    rcases hI with ⟨hdf, HB, FA, EX, f0, f1, f2, f3, f4, f5, f6, f7, f8, f9, f10, f11⟩ | ⟨hdl, _⟩
                    rotate_left
                    · exact absurd ((hcl 8 _ rfl (hcl 9 _ rfl (hcl 10 _ rfl (hcl 12 _ rfl hdl ⟨10, .data⟩ (by simp) rfl) ⟨9, .data⟩ (by simp) rfl) ⟨8, .data⟩ (by simp) rfl) ⟨7, .data⟩ (by simp) rfl).symm.trans hdk) (by decide)
                    have h6 := haft ⟨6, .data⟩ (by simp) rfl
                    have hap : d 10 = false := by
                      cases hh : d 10 with
                      | false => rfl
                      | true => exact absurd ((hcl 8 _ rfl (hcl 9 _ rfl (hcl 10 _ rfl hh ⟨9, .data⟩ (by simp) rfl) ⟨8, .data⟩ (by simp) rfl) ⟨7, .data⟩ (by simp) rfl).symm.trans hdk) (by decide)
                    have HW := hid (FA.out hap)
                    obtain rfl := f6.out h6
                    have hdz := hid hdf
                    have c19 := cell_keep HW.out C1.out
                    have sl9 : g19 < w9.heap.size := Nat.lt_of_lt_of_le HSL.out HW.out.size
                    clear h6 hdk haft hcl hdf hap
                    go_wp2
                    exact rthenK_n ⟨_, _, _, _, _, _, _, _, _, _, _, _, rfl, .inl ⟨rkd rfl hdz, hid (HB.out.trans ((Below.refl w9.heap.size w9).mono (Nat.le_trans hBw7 HB.out.size))), hid (fun h => (FA.out (runupd rfl h)).trans ((Below.refl w9.heap.size w9).mono (FA.out (runupd rfl h)).size)), hid (⟨own_belowS EX.out.1 (Below.refl w9.heap.size w9), EX.out.2.below (Below.refl w9.heap.size w9)⟩), rkf rfl f0 (fun h => by first | exact h | exact rfl), rkf rfl f1 (fun h => by first | exact h | exact rfl), rkf rfl f2 (fun h => by first | exact h | exact rfl), rkf rfl f3 (fun h => by first | exact h | exact rfl), rkf rfl f4 (fun h => by first | exact h | exact rfl), rkf rfl f5 (fun h => by first | exact h | exact rfl), rkf rfl f6 (fun h => by first | exact h | exact rfl), rnf rfl, rkf rfl f8 (fun h => by first | exact h | exact rfl), rkf rfl f9 (fun h => (by obtain ⟨g, e1, e2⟩ := h; exact ⟨g, e1, fun h15 => res_keep' (e2 (runupd rfl h15)) (Below.refl w9.heap.size w9) (lt_of_block (e2 (runupd rfl h15)))⟩)), rkf rfl f10 (fun h => own_belowS h (Below.refl w9.heap.size w9)), rkf rfl f11 (fun h => by first | exact h | exact rfl)⟩⟩
                  · rintro d ac w9 ⟨x125, x126, x127, x128, x129, x130, x131, x132, x133, x134, x135, x136, rfl, hI⟩ hcl hdk haft
                    rcases hI with ⟨hdf, HB, FA, EX, f0, f1, f2, f3, f4, f5, f6, f7, f8, f9, f10, f11⟩ | ⟨hdl, _⟩
                    rotate_left
                    · exact absurd ((hcl 9 _ rfl (hcl 10 _ rfl (hcl 12 _ rfl hdl ⟨10, .data⟩ (by simp) rfl) ⟨9, .data⟩ (by simp) rfl) ⟨8, .data⟩ (by simp) rfl).symm.trans hdk) (by decide)
                    have h5 := haft ⟨5, .data⟩ (by simp) rfl
                    have h7 := haft ⟨7, .data⟩ (by simp) rfl
                    have hap : d 10 = false := by
                      cases hh : d 10 with
                      | false => rfl
                      | true => exact absurd ((hcl 9 _ rfl (hcl 10 _ rfl hh ⟨9, .data⟩ (by simp) rfl) ⟨8, .data⟩ (by simp) rfl).symm.trans hdk) (by decide)
                    have HW := hid (FA.out hap)
                    obtain rfl := f5.out h5
                    obtain rfl := f7.out h7
                    have hdz := hid hdf
                    clear h5 h7 hdk haft hcl hdf hap
                    go_wp2
                    exact rthenK_n ⟨_, _, _, _, _, _, _, _, _, _, _, _, rfl, .inl ⟨rkd rfl hdz, hid (HB.out.trans ((Below.refl w9.heap.size w9).mono (Nat.le_trans hBw7 HB.out.size))), hid (fun h => (FA.out (runupd rfl h)).trans ((Below.refl w9.heap.size w9).mono (FA.out (runupd rfl h)).size)), hid (⟨own_belowS EX.out.1 (Below.refl w9.heap.size w9), EX.out.2.below (Below.refl w9.heap.size w9)⟩), rkf rfl f0 (fun h => by first | exact h | exact rfl), rkf rfl f1 (fun h => by first | exact h | exact rfl), rkf rfl f2 (fun h => by first | exact h | exact rfl), rkf rfl f3 (fun h => by first | exact h | exact rfl), rkf rfl f4 (fun h => by first | exact h | exact rfl), rkf rfl f5 (fun h => by first | exact h | exact rfl), rkf rfl f6 (fun h => by first | exact h | exact rfl), rkf rfl f7 (fun h => by first | exact h | exact rfl), rnf rfl, rkf rfl f9 (fun h => (by obtain ⟨g, e1, e2⟩ := h; exact ⟨g, e1, fun h15 => res_keep' (e2 (runupd rfl h15)) (Below.refl w9.heap.size w9) (lt_of_block (e2 (runupd rfl h15)))⟩)), rkf rfl f10 (fun h => own_belowS h (Below.refl w9.heap.size w9)), rkf rfl f11 (fun h => by first | exact h | exact rfl)⟩⟩
                  · rintro d ac w9 ⟨x125, x126, x127, x128, x129, x130, x131, x132, x133, x134, x135, x136, rfl, hI⟩ hcl hdk haft
                    rcases hI with ⟨hdf, HB, FA, EX, f0, f1, f2, f3, f4, f5, f6, f7, f8, f9, f10, f11⟩ | ⟨hdl, _⟩
                    rotate_left
                    · exact absurd ((hcl 10 _ rfl (hcl 12 _ rfl hdl ⟨10, .data⟩ (by simp) rfl) ⟨9, .data⟩ (by simp) rfl).symm.trans hdk) (by decide)
                    have h8 := haft ⟨8, .data⟩ (by simp) rfl
                    have hap : d 10 = false := by
                      cases hh : d 10 with
                      | false => rfl
                      | true => exact absurd ((hcl 10 _ rfl hh ⟨9, .data⟩ (by simp) rfl).symm.trans hdk) (by decide)
                    have HW := hid (FA.out hap)
                    obtain rfl := f8.out h8
                    have hdz := hid hdf
                    clear h8 hdk haft hcl hdf hap
                    go_wp2
                    exact rthenK_n ⟨_, _, _, _, _, _, _, _, _, _, _, _, rfl, .inl ⟨rkd rfl hdz, hid (HB.out.trans ((below_one w9 _).mono (Nat.le_trans hBw7 HB.out.size))), hid (fun h => (FA.out (runupd rfl h)).trans ((below_one w9 _).mono (FA.out (runupd rfl h)).size)), hid (⟨own_belowS EX.out.1 (below_one w9 _), EX.out.2.below (below_one w9 _)⟩), rkf rfl f0 (fun h => by first | exact h | exact rfl), rkf rfl f1 (fun h => by first | exact h | exact rfl), rkf rfl f2 (fun h => by first | exact h | exact rfl), rkf rfl f3 (fun h => by first | exact h | exact rfl), rkf rfl f4 (fun h => by first | exact h | exact rfl), rkf rfl f5 (fun h => by first | exact h | exact rfl), rkf rfl f6 (fun h => by first | exact h | exact rfl), rkf rfl f7 (fun h => by first | exact h | exact rfl), rkf rfl f8 (fun h => by first | exact h | exact rfl), rnf ⟨_, rfl, fun _ => heap_alloc_new w9 _⟩, rkf rfl f10 (fun h => own_belowS h (below_one w9 _)), rkf rfl f11 (fun h => by first | exact h | exact rfl)⟩⟩
                  · rintro d ac w9 ⟨x125, x126, x127, x128, x129, x130, x131, x132, x133, x134, x135, x136, rfl, hI⟩ hcl hdk haft
                    rcases hI with ⟨hdf, HB, FA, EX, f0, f1, f2, f3, f4, f5, f6, f7, f8, f9, f10, f11⟩ | ⟨hdl, _⟩
                    rotate_left
                    · exact absurd ((hcl 12 _ rfl hdl ⟨10, .data⟩ (by simp) rfl).symm.trans hdk) (by decide)
                    have h1 := haft ⟨1, .data⟩ (by simp) rfl
                    have h9 := haft ⟨9, .data⟩ (by simp) rfl
                    have hap : d 10 = false := by
                      cases hh : d 10 with
                      | false => rfl
                      | true => exact absurd (hh.symm.trans hdk) (by decide)
                    have HW := hid (FA.out hap)
                    obtain rfl := f1.out h1
                    obtain ⟨g9, rfl, hg9⟩ := f9.out h9
                    have HG9 := hid (hg9 hap)
                    clear hg9
                    have hdz := hid hdf
                    clear h1 h9 hdk haft hcl hdf hap
                    have HU9 := hid (own_belowS HU.out HW.out)
                    go_wp2_with (at_builtin; refine wpList_append_own _ rfl _ _ 24 rfl (BN) 44 k0 _ 2 24 Tryd.underlying24 hk0 hk1 hk2 hk3 rfl (by decide) _ l (XS) rfl HU9.out ⟨g9, 0, none⟩ 1 1 [.string FZ, .bool ds] rfl rfl (ren_cells HG9.out rfl) (ren_one rfl) (by unfold maxLen; omega) (by omega) (Nat.le_trans hBw7 HB.out.size) ?_; intro v8 w8 hown8 hg8 _)
                    exact rthenK_n ⟨_, _, _, _, _, _, _, _, _, _, _, _, rfl, .inl ⟨rkd rfl hdz, hid (HB.out.grown hg8 (Nat.le_trans hBw7 HB.out.size) (fun k e => (HU9.out.lt k e).1)), hid (fun h => absurd h (fun h => rupd_self h)), hid (⟨EX.out.1.kept hg8 (ren_apart EX.out.1 HU9.out (by decide)), EX.out.2.kept HU9.out (by decide) hg8⟩), rkf rfl f0 (fun h => by first | exact h | exact rfl), rkf rfl f1 (fun h => by first | exact h | exact rfl), rkf rfl f2 (fun h => by first | exact h | exact rfl), rkf rfl f3 (fun h => by first | exact h | exact rfl), rkf rfl f4 (fun h => by first | exact h | exact rfl), rkf rfl f5 (fun h => by first | exact h | exact rfl), rkf rfl f6 (fun h => by first | exact h | exact rfl), rkf rfl f7 (fun h => by first | exact h | exact rfl), rkf rfl f8 (fun h => by first | exact h | exact rfl), rkf rfl f9 (fun h => (by obtain ⟨g, e1, _⟩ := h; exact ⟨g, e1, fun h15 => absurd h15 (fun h => rupd_self h)⟩)), rnf hown8, rkf rfl f11 (fun h => by first | exact h | exact rfl)⟩⟩
                  · rintro d ac w9 ⟨x125, x126, x127, x128, x129, x130, x131, x132, x133, x134, x135, x136, rfl, hI⟩ hcl hdk haft
                    rcases hI with ⟨hdf, HB, FA, EX, f0, f1, f2, f3, f4, f5, f6, f7, f8, f9, f10, f11⟩ | ⟨hdl, _⟩
                    rotate_left
                    · exact absurd ((hcl 12 _ rfl hdl ⟨11, .data⟩ (by simp) rfl).symm.trans hdk) (by decide)
                    have hdz := hid hdf
                    clear  hdk haft hcl hdf
                    go_wp2
                    exact rthenK_n ⟨_, _, _, _, _, _, _, _, _, _, _, _, rfl, .inl ⟨rkd rfl hdz, hid (HB.out.trans ((Below.refl w9.heap.size w9).mono (Nat.le_trans hBw7 HB.out.size))), hid (fun h => (FA.out (runupd rfl h)).trans ((Below.refl w9.heap.size w9).mono (FA.out (runupd rfl h)).size)), hid (⟨own_belowS EX.out.1 (Below.refl w9.heap.size w9), EX.out.2.below (Below.refl w9.heap.size w9)⟩), rkf rfl f0 (fun h => by first | exact h | exact rfl), rkf rfl f1 (fun h => by first | exact h | exact rfl), rkf rfl f2 (fun h => by first | exact h | exact rfl), rkf rfl f3 (fun h => by first | exact h | exact rfl), rkf rfl f4 (fun h => by first | exact h | exact rfl), rkf rfl f5 (fun h => by first | exact h | exact rfl), rkf rfl f6 (fun h => by first | exact h | exact rfl), rkf rfl f7 (fun h => by first | exact h | exact rfl), rkf rfl f8 (fun h => by first | exact h | exact rfl), rkf rfl f9 (fun h => (by obtain ⟨g, e1, e2⟩ := h; exact ⟨g, e1, fun h15 => res_keep' (e2 (runupd rfl h15)) (Below.refl w9.heap.size w9) (lt_of_block (e2 (runupd rfl h15)))⟩)), rkf rfl f10 (fun h => own_belowS h (Below.refl w9.heap.size w9)), rnf rfl⟩⟩
                  · rintro d ac w9 ⟨x125, x126, x127, x128, x129, x130, x131, x132, x133, x134, x135, x136, rfl, hI⟩ hcl hdk haft
                    rcases hI with ⟨hdf, HB, FA, EX, f0, f1, f2, f3, f4, f5, f6, f7, f8, f9, f10, f11⟩ | ⟨hdl, _⟩
                    rotate_left
                    · exact absurd (hdl.symm.trans hdk) (by decide)
                    have h11 := haft ⟨11, .data⟩ (by simp) rfl
                    have h10 := haft ⟨10, .data⟩ (by simp) rfl
                    obtain rfl := f11.out h11
                    have hap8 := hid (f10.out h10)
                    have hdz := hid hdf
                    have hp9 := res_keep' HBX.out HB.out HBXL.out
                    have p3 : w9.cell? ⟨g5, 4, none⟩ = some u6 := rcell hp9 rfl
                    have fz : w9.frozen? ⟨g5, 4, none⟩ = false := by simp [World.frozen?, hp9]
                    have HP9 := hid hp9
                    obtain ⟨g8, cap8, rfl⟩ := own_slice1 hap8.out
                    have hne : Value.ownBlock (.slice (some ⟨g8, 0, none⟩) (l + 1) cap8) ≠ some (g5) := fun e => by have := (hap8.out.lt _ e).1; have := HBXL.out; omega
                    have HNE := hid hne
                    clear hp9 hne
                    clear h11 h10 hdk haft hcl hdf
                    go_wp2
                    exact rthenK_n ⟨_, _, _, _, _, _, _, _, _, _, _, _, rfl, .inr ⟨rfl, hid (⟨_, heap_setCell_same w9 (g5) 4 _ _ _ HP9.out, ownsRow_setCell_other hap8.out (a := ⟨g5, 4, none⟩) HNE.out _, ⟨ren_far EX.out.1 (ren_set w9 _ _ _) HBXL.out, EX.out.2.far (ren_set w9 _ _ _) HBXL.out⟩, (HB.out.mono (by have := HBXL.out; omega)).setCell (p := ⟨g5, 4, none⟩) (Nat.le_refl (g5)) _⟩)⟩⟩
                case fin =>
                  rintro d ac w9 ⟨x125, x126, x127, x128, x129, x130, x131, x132, x133, x134, x135, x136, rfl, hI⟩ hall
                  rcases hI with ⟨hd, _⟩ | ⟨_, HE⟩
                  · exact absurd ((hall 12).symm.trans hd) (by decide)
                  clear hall
                  obtain ⟨v8, hp8, hown8, ⟨hx8, hx9⟩, hb8⟩ := HE.out
                  have HP8 := hid hp8
                  rw [← HTK.out] at hown8
                  have HO8 := hid hown8
                  rw [← HNL.out] at hx8
                  have HX8 := hid hx8
                  have HX9 := hid hx9
                  have HQ8 := hid (HQ7.out.on hb8 hg52)
                  have hBw8 : BN ≤ w9.heap.size := Nat.le_trans hBw7 hb8.size
                  clear HE hp8 hown8 hb8 hx8 hx9
                  go_wp2
                  go_roundw
                  case rel => exact ⟨l + 1, v8, by omega, (by first | rfl | go_num), HP8, HX8, HX9, HO8, HQ8, hBw8⟩
                  case measure => simp [intOf]; omega
              · have hke : l = os.length := by omega
                have hU := HU6.out
                rw [List.take_of_length_le (by omega), hke, ← List.length_map (f := mapKy f)] at hU
                have hUh := HUH6.out
                rw [← List.length_map (f := f)] at hUh
                have hsr : ∀ r ∈ rs.map (mapR f), r.some := fun r hr => by
                  obtain ⟨r0, hr0, rfl⟩ := List.mem_map.1 hr
                  exact some_map (HSM.out.s r0 hr0)
                obtain ⟨TH, c1, eu, _, _⟩ := own_names hUh
                obtain ⟨TR, c2, ev, _, _⟩ := ren_ruls HUR6.out hsr
                obtain ⟨TO, c3, ez, _, _⟩ := ren_keys hU
                rw [List.length_map] at eu ev ez
                subst eu ev ez
                obtain ⟨p0, p1, p2, p3, p4, plt⟩ := rbox HP6.out
                have HU7 := hid hU
                have HUH7 := hid hUh
                have HSR := hid hsr
                have HBL := hid hbel
                have hg5n : w.heap.size + 1 < BN := by omega
                clear hU hUh hsr hke q0 q1 q2 q3 q4 HU6 HUH6
                go_wp2_with (refine wpList_stored2 rfl rfl rfl rfl qz infoQryN rfl rfl ?_; intro w3 hz3 hg3)
                refine bodyPost_ret (by simp [results, Tryd.results45, go_sem, cell_res' hz3]; rfl) rfl ?_
                have HUH8 := hid (ren_far HUH7.out hg3 hg5n)
                have HUR8 := hid (HUR6.out.far hg3 hg5n)
                have HU8 := hid (ren_far HU7.out hg3 hg5n)
                have hwn : w.heap.size ≤ BN := by omega
                refine ⟨TH, TR, TO, c1, c2, c3, ?_, fun w2 ho => ?_, HBL.out.grown hg3 hsz (fun k e => by injection e with e; omega)⟩
                rotate_left
                · have ho2 := ho.mono hwn
                  obtain ⟨TH2, c12, eu, hN, hNl⟩ := own_names (ren_over HUH8.out ho2)
                  obtain ⟨TR2, c22, ev, hR, hRl⟩ := ren_ruls (HUR8.out.over ho2) HSR.out
                  obtain ⟨TO2, c32, ez, hO, hOl⟩ := ren_keys (ren_over HU8.out ho2)
                  injection eu with e1 e2 e3
                  injection ev with e4 e5 e6
                  injection ez with e7 e8 e9
                  subst e1 e3 e4 e6 e7 e9
                  refine ⟨hN, hR, hO, hNl, hRl, hOl, ?_, ?_, ?_⟩
                  · show (hd.map f).length ≤ _
                    rw [List.length_map]; omega
                  · show (rs.map (mapR f)).length ≤ _
                    rw [List.length_map]; omega
                  · show (os.map (mapKy f)).length ≤ _
                    rw [List.length_map]; omega
                · unfold qryV mapQ
                  simp only [List.length_map]
                  rw [← HFY.out, HYd.out]
end Go.Proofs.YtgeapgbebbapmaaDoor
