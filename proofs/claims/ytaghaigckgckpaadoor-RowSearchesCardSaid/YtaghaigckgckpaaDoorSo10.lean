/-
  WALKS: row.Dedup; the document's Sort.
-/
import Derived.Test.YtaghaigckgckpaaDoorSo8
import Derived.Test.YtaghaigckgckpaaDoorSo9
namespace Go.Proofs.YtaghaigckgckpaaDoor
open Go.RowKit

set_option maxRecDepth 100000 in
set_option maxHeartbeats 2000000 in
theorem row_dedup (A : Option Addr) (c : Nat) (rs : List (List V)) (w : World) (h : RowsAt w A rs) (hl : rs.length ≤ 100000) (hrl : ∀ r ∈ rs, r.length ≤ 100000) :
    Calls Tryd.prog 9 #[.slice A rs.length c] w (RetEls w (ded rs rs.length)) := by
  obtain ⟨i0, hi, hz0, hz1, hz2⟩ := info_parts infoRow
  have HA := hid h
  have HRL := hid hrl
  clear h hrl
  go_enter Tryd.func9, Tryd.ntmps9
  go_wp2
  go_loopw [3, 7] (fun v i wr => ∃ (k n : Nat) (l : List El), k ≤ rs.length ∧ n ≤ k ∧ i = .int .i64 k ∧ Hid (OwnEls wr w.heap.size 35 v n l) ∧ Hid (l.map El.r = ded rs k) ∧ Below w.heap.size w wr) (fun _ i _ => rs.length - (intOf i).toNat)
  case atStart => exact ⟨0, 0, [], by omega, by omega, rfl, hid OwnEls.nil, hid rfl, Below.refl _ _⟩
  case round =>
    obtain ⟨k, n, l, hk, hnk, rfl, HO, HM, hbel⟩ := hrel
    have hsz := hbel.size
    by_cases hlt : k < rs.length
    · obtain ⟨b, o, rfl, hcell⟩ := HA.out (by omega)
      obtain ⟨A1, c1, e0, hr1⟩ := hcell k hlt
      have hm1 := HRL.out _ (List.getElem_mem hlt)
      rw [← hbel.cell (cell_lt e0)] at e0
      have hDY := fun (h : k = 0 ∨ ∃ h : k - 1 < rs.length, rs[k - 1] ≠ rs[k]) => hid (ded_yes hlt h)
      have hCl := hid (fun W (kW : Below wr.heap.size wr W) => clone_row A1 c1 rs[k] W ((hr1.below hbel).below kW) hm1)
      by_cases h0 : k = 0
      · have hD := hDY (Or.inl h0)
        generalize rs[k] = r at *
        have d0 : ((k : Int) == 0) = true := by simp; omega
        clear hcell hr1 hm1 hDY h0
        go_wp2
        go_big_region
        have b1 : Below wr.heap.size wr wr.drew := below_drewN (Below.refl _ _) 1
        generalize wr.drew = w1 at b1 ⊢
        have HO1 := hid (HO.out.below b1)
        have k1 := hbel.trans (b1.mono hsz)
        have hs1 := k1.size
        rw [← b1.cell (cell_lt e0)] at e0
        have HCl := hid (hCl.out w1 b1)
        clear b1 hCl HO
        go_wp2_with fail
        refine HCl.out.mono ?_
        rintro e w2 ⟨A2, c2, rfl, hx2, hnew2, hc2, b2⟩
        have HO2 := hid (HO1.out.below b2)
        have hown2 := HO2.out.1
        have k2 := k1.trans (b2.mono hs1)
        have hs2 := k2.size
        have hnw := HO1.out.newer hnew2
        have HP := hid (fun (v2 : Value) (W2 : World) (m : Nat) ho hg hat (hmm : w2.heap.size ≤ m) => HO2.out.push (w' := W2) (v' := v2) (n' := n + 1) (m := m) (l2 := [⟨A2, c2, r⟩]) ho hg hat hmm (fun x hx => by
          rw [List.mem_singleton] at hx
          subst hx
          exact ⟨hx2, fun _ => hnw⟩))
        clear b2 hx2 hnew2 hc2 hnw HO1 HCl
        go_wp2_with (at_builtin; refine wpList_append_new_at Tryd.underlying22 hi hz0 hz1 hz2 rfl (by decide) (by decide) rfl rfl rfl hown2 rfl (by simp) rfl rfl (by omega) (by omega) ?_; intro v3 w3 hown3 hg3 hat3)
        go_roundw
        case rel => exact ⟨k + 1, n + 1, _, by omega, by omega, by go_num, hid (HP.out v3 w3 _ hown3 hg3 hat3 (by omega)), hid (by rw [List.map_append, HM.out, hD.out]; rfl), k2.trans (grown_below hown2 hg3 (by omega))⟩
        case measure => simp [intOf]; omega
      · obtain ⟨A0, c0, e9, hr0⟩ := hcell (k - 1) (by omega)
        rw [← hbel.cell (cell_lt e9)] at e9
        have hm3 := HRL.out _ (List.getElem_mem (show k - 1 < rs.length by omega))
        obtain ⟨z, hz⟩ : ∃ z, decide (rowCmp [] rs[k - 1] rs[k] = 0) = z := ⟨_, rfl⟩
        have HC := hid (row_equal A0 A1 c0 c1 rs[k - 1] rs[k] wr.drew hz (hr0.below hbel.drew) (hr1.below hbel.drew) hm3 hm1)
        obtain ⟨kp, hkp⟩ : ∃ q, q = k - 1 := ⟨_, rfl⟩
        have ekp : (k : Int) - 1 = (kp : Int) := by omega
        have rkp : IntKind.i64.wrap ((k : Int) - 1) = (kp : Int) := by rw [IntKind.wrap_i64]; omega
        have rkp2 : IntKind.i64.wrap (kp : Int) = (kp : Int) := by rw [IntKind.wrap_i64]; omega
        have hkl : (kp : Int) < (rs.length : Int) := by omega
        have d0 : ((k : Int) == 0) = false := by simp; omega
        have Hkp := hid hkp
        by_cases hzz : z = true
        · have hD := hid (ded_no hlt (by omega) (rowCmp_zero.1 (of_decide_eq_true (hz.trans hzz))))
          subst hzz
          generalize rs[k] = r at *
          generalize rs[k - 1] = r0 at *
          rw [← hkp] at e9
          clear hcell hr1 hm1 hDY h0 hr0 hm3 hz hkp hCl
          go_wp2
          go_still_tail 12, (by kernel_rfl)
          change wpList _ _ _ _ _ wr.drew
          go_wp2_with fail
          refine HC.out.mono ?_
          rintro e w1 ⟨rfl, b1⟩
          have HO1 := hid ((HO.out.below (below_drewN (Below.refl _ _) 1)).below b1)
          have k1 := hbel.drew.trans (b1.mono hsz)
          clear b1 HO
          go_wp2
          go_roundw
          case rel => exact ⟨k + 1, n, l, by omega, by omega, by go_num, HO1, hid (by rw [HM.out, hD.out]), k1⟩
          case measure => simp [intOf]; omega
        · have hD := hDY (Or.inr ⟨by omega, fun e => hzz (hz.symm.trans (decide_eq_true (rowCmp_zero.2 e)))⟩)
          have hzf : z = false := by simpa using hzz
          subst hzf
          generalize rs[k] = r at *
          generalize rs[k - 1] = r0 at *
          rw [← hkp] at e9
          clear hcell hr1 hm1 hDY h0 hr0 hm3 hz hkp
          go_wp2
          go_still_tail 12, (by kernel_rfl)
          change wpList _ _ _ _ _ wr.drew
          go_wp2_with fail
          refine HC.out.mono ?_
          rintro e w1 ⟨rfl, b1'⟩
          have b1 : Below wr.heap.size wr w1 := (below_drewN (Below.refl _ wr) 1).trans b1'
          clear b1' e9 HC
          have HO1 := hid (HO.out.below b1)
          have k1 := hbel.trans (b1.mono hsz)
          have hs1 := k1.size
          rw [← b1.cell (cell_lt e0)] at e0
          have HCl := hid (hCl.out w1 b1)
          clear b1 hCl HO
          go_wp2_with fail
          refine HCl.out.mono ?_
          rintro e w2 ⟨A2, c2, rfl, hx2, hnew2, hc2, b2⟩
          have HO2 := hid (HO1.out.below b2)
          have hown2 := HO2.out.1
          have k2 := k1.trans (b2.mono hs1)
          have hs2 := k2.size
          have hnw := HO1.out.newer hnew2
          have HP := hid (fun (v2 : Value) (W2 : World) (m : Nat) ho hg hat (hmm : w2.heap.size ≤ m) => HO2.out.push (w' := W2) (v' := v2) (n' := n + 1) (m := m) (l2 := [⟨A2, c2, r⟩]) ho hg hat hmm (fun x hx => by
            rw [List.mem_singleton] at hx
            subst hx
            exact ⟨hx2, fun _ => hnw⟩))
          clear b2 hx2 hnew2 hc2 hnw HO1 HCl
          go_wp2_with (at_builtin; refine wpList_append_new_at Tryd.underlying22 hi hz0 hz1 hz2 rfl (by decide) (by decide) rfl rfl rfl hown2 rfl (by simp) rfl rfl (by omega) (by omega) ?_; intro v3 w3 hown3 hg3 hat3)
          go_roundw
          case rel => exact ⟨k + 1, n + 1, _, by omega, by omega, by go_num, hid (HP.out v3 w3 _ hown3 hg3 hat3 (by omega)), hid (by rw [List.map_append, HM.out, hD.out]; rfl), k2.trans (grown_below hown2 hg3 (by omega))⟩
          case measure => simp [intOf]; omega
    · have ek : k = rs.length := by omega
      subst ek
      obtain ⟨A', c', rfl, hn, hE⟩ := HO.out.els
      have HE := hid hE
      have HL := hid hn
      clear hE hn HO
      go_wp2
      go_ret
      exact ⟨A', c', l, (by rw [HL.out]; rfl), HE.out, HM.out, hbel⟩
end Go.Proofs.YtaghaigckgckpaaDoor
