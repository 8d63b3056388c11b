/-
  WALKS: the document's Same, Search, Dedup; the law's Same.
-/
import Derived.Test.YtaghaigckgckpaaDoorEls
namespace Go.Proofs.YtaghaigckgckpaaDoor
open Go.RowKit

theorem ElsAt.cell {w : World} {b o : Nat} {x : Option Nat} {l : List El} (h : ElsAt w (some ⟨b, o, x⟩) l) {i : Nat} (hi : i < l.length) : x = none ∧ w.cell? ⟨b, o + i, none⟩ = some l[i].val ∧ RowAt w l[i].A l[i].r := by
  obtain ⟨b', o', e, hc⟩ := h.1 (by omega)
  injection e with e
  injection e with e1 e2 e3
  subst e1 e2 e3
  exact ⟨rfl, hc i hi, h.2 _ (List.getElem_mem hi)⟩

set_option maxRecDepth 100000 in
set_option maxHeartbeats 2000000 in
theorem ref_same (A A' : Option Addr) (c c' : Nat) (rs : List (List V)) (w : World) (h : RowsAt w A rs) (h' : RowsAt w A' rs) (hl : rs.length ≤ 100000) (hrl : ∀ r ∈ rs, r.length ≤ 100000 ∧ StrOk r) :
    Calls Tryd.prog 26 #[.slice A rs.length c, .slice A' rs.length c'] w fun e w' => e = .returned (.bool true) ∧ Below w.heap.size w w' := by
  have HA := hid h
  have HB := hid h'
  have HRL := hid hrl
  clear h h' hrl
  go_enter Tryd.func26, Tryd.ntmps26
  go_wp2
  go_loopw [5] (fun i wr => ∃ k : Nat, k ≤ rs.length ∧ i = .int .i64 k ∧ Below w.heap.size w wr) (fun i _ => rs.length - (intOf i).toNat)
  case atStart => exact ⟨0, by omega, rfl, Below.refl _ _⟩
  case round =>
    obtain ⟨k, hk, rfl, hbel⟩ := hrel
    by_cases hlt : k < rs.length
    · obtain ⟨b, o, rfl, hcell⟩ := HA.out (by omega)
      obtain ⟨b', o', rfl, hcell'⟩ := HB.out (by omega)
      obtain ⟨A1, c1, e0, hr1⟩ := hcell k hlt
      obtain ⟨A2, c2, e1, hr2⟩ := hcell' k hlt
      obtain ⟨hm1, hm2⟩ := HRL.out _ (List.getElem_mem hlt)
      rw [← hbel.cell (cell_lt e0)] at e0
      rw [← hbel.cell (cell_lt e1)] at e1
      have HC := hid (refRow_cmp A1 A2 none c1 c2 0 rs[k] rs[k] [] wr.drew ((rowCmp_ord []).refl _) (hr1.below hbel.drew) (hr2.below hbel.drew) BoolsAt.nil hm1 hm1 (by simp) hm2 hm2)
      generalize rs[k] = r at *
      clear hcell hcell' hr1 hr2 hm1 hm2
      go_wp2
      go_still_tail 8, (by kernel_rfl)
      change wpList _ _ _ _ _ wr.drew
      go_wp2_with fail
      refine HC.out.mono ?_
      rintro e w1 ⟨rfl, b1⟩
      go_wp2
      go_roundw
      case rel => exact ⟨k + 1, by omega, by go_num, hbel.drew.trans (b1.mono hbel.size)⟩
      case measure => simp [intOf]; omega
    · go_wp2
      go_ret
      exact ⟨rfl, hbel⟩

set_option maxRecDepth 100000 in
set_option maxHeartbeats 1000000 in
theorem law_same2 (A A' : Option Addr) (c c' : Nat) (rs : List (List V)) (w : World) (h : RowsAt w A rs) (h' : RowsAt w A' rs) (hl : rs.length ≤ 100000) (hrl : ∀ r ∈ rs, r.length ≤ 100000 ∧ StrOk r) :
    Calls Tryd.prog 10 #[.slice A rs.length c, .slice A' rs.length c'] w fun e w' => e = .returned (.bool true) ∧ Below w.heap.size w w' := by
  have HA := hid (law_all A c rs w h hl (fun r hr => (hrl r hr).1))
  have HB := hid h'
  have HRL := hid hrl
  clear h h' hrl
  go_enter Tryd.func10, Tryd.ntmps10
  go_wp2_with fail
  refine HA.out.mono ?_
  rintro e w1 ⟨A1, c1, l, rfl, hE, hm, b1⟩
  have hll : l.length = rs.length := by rw [← hm, List.length_map]
  have HS := hid (ref_same A1 A' c1 c' rs w1 (by rw [← hm]; exact hE.rows) (HB.out.below b1) hl HRL.out)
  rw [← hll] at HS
  have HL := hid hll
  clear hE hm HA HB hll
  have HS2 := HS
  rw [HL.out] at HS2 ⊢
  clear HS
  go_wp2_with fail
  refine HS2.out.mono ?_
  rintro e w2 ⟨rfl, b2⟩
  go_wp2
  go_ret
  exact ⟨rfl, b1.trans (b2.mono b1.size)⟩

set_option maxRecDepth 100000 in
set_option maxHeartbeats 2000000 in
theorem ref_search (A A' D : Option Addr) (c c' cd : Nat) (rs : List (List V)) (r : List V) (d : List Bool) (w : World) {n : Nat} {x : Bool} (hn : cntR d r rs = n) (hx : hasR d r rs = x) (h : RowsAt w A rs) (hr : RowAt w A' r) (hd : BoolsAt w D d) (hl : rs.length ≤ 100000) (hrl : ∀ r ∈ rs, r.length ≤ 100000 ∧ StrOk r) (hr1 : r.length ≤ 100000) (hr2 : StrOk r) (hdl : d.length ≤ 100000) :
    Calls Tryd.prog 14 #[.slice A rs.length c, .slice A' r.length c', .slice D d.length cd] w fun e w' => e = .returned (.tuple #[.int .i64 n, .bool x]) ∧ Below w.heap.size w w' := by
  have HA := hid h
  have HRL := hid hrl
  have HN := hid hn
  have HX := hid hx
  have HCm := fun (A1 : Option Addr) (c1 : Nat) (q : List V) (W : World) (z : Int) (hz : rowCmp d q r = z) (kW : Below w.heap.size w W) (h1 : RowAt W A1 q) (h2 : q.length ≤ 100000 ∧ StrOk q) => hid (refRow_cmp A1 A' D c1 c' cd q r d W hz h1 (hr.below kW) (hd.below kW) h2.1 hr1 hdl h2.2 hr2)
  clear h hrl hr hd hn hx
  go_enter Tryd.func14, Tryd.ntmps14
  go_wp2
  go_loopw [8, 9, 10] (fun vn vf i wr => ∃ (k m : Nat) (f : Bool), k ≤ rs.length ∧ m ≤ k ∧ i = .int .i64 k ∧ vn = .int .i64 m ∧ vf = .bool f ∧ Hid (cntR d r (rs.take k) = m) ∧ Hid (hasR d r (rs.take k) = f) ∧ Below w.heap.size w wr) (fun _ _ i _ => rs.length - (intOf i).toNat)
  case atStart => exact ⟨0, 0, false, by omega, by omega, rfl, rfl, rfl, hid rfl, hid rfl, Below.refl _ _⟩
  case round =>
    obtain ⟨k, m, f, hk, hm, rfl, rfl, rfl, HM, HF, hbel⟩ := hrel
    by_cases hlt : k < rs.length
    · obtain ⟨b, o, rfl, hcell⟩ := HA.out (by omega)
      obtain ⟨A1, c1, e0, hr1⟩ := hcell k hlt
      have hm1 := HRL.out _ (List.getElem_mem hlt)
      rw [← hbel.cell (cell_lt e0)] at e0
      have HM2 := hid (cnt_succ (d := d) (r := r) hlt)
      have HF2 := hid (has_succ (d := d) (r := r) hlt)
      obtain ⟨z, hz⟩ : ∃ z, rowCmp d rs[k] r = z := ⟨_, rfl⟩
      have HC := HCm A1 c1 rs[k] wr z hz hbel (hr1.below hbel) hm1
      rw [hz] at HM2 HF2
      rw [HM.out] at HM2
      rw [HF.out] at HF2
      generalize rs[k] = q at *
      clear hcell hr1 hm1 hz HCm HM HF
      have HM3 : Hid (cntR d r (rs.take (k + 1)) = if z < 0 then m + 1 else m) := hid (by rw [HM2.out]; split <;> rfl)
      have HF3 : Hid (hasR d r (rs.take (k + 1)) = (f || decide (z = 0))) := hid HF2.out
      clear HM2 HF2
      by_cases hz0 : z < 0
      · have g1 : Hid (cntR d r (rs.take (k + 1)) = m + 1) := hid (by rw [HM3.out, if_pos hz0])
        have g2 : Hid (hasR d r (rs.take (k + 1)) = f) := hid (by rw [HF3.out, decide_eq_false (by omega : ¬ z = 0), Bool.or_false])
        have d0 : (z == 0) = false := by simp; omega
        clear HM3 HF3
        cases f
        all_goals
          go_wp2_with fail
          refine HC.out.mono ?_
          rintro e w1 ⟨rfl, b1⟩
          have k1 := hbel.trans (b1.mono hbel.size)
          go_wp2
          go_roundw
          case rel => exact ⟨k + 1, m + 1, _, by omega, by omega, by go_num, by go_num, rfl, g1, g2, k1⟩
          case measure => simp [intOf]; omega
      · have g1 : Hid (cntR d r (rs.take (k + 1)) = m) := hid (by rw [HM3.out, if_neg hz0])
        by_cases hz1 : z = 0
        · have g2 : Hid (hasR d r (rs.take (k + 1)) = true) := hid (by rw [HF3.out, decide_eq_true hz1, Bool.or_true])
          subst hz1
          clear HM3 HF3
          cases f
          all_goals
            go_wp2_with fail
            refine HC.out.mono ?_
            rintro e w1 ⟨rfl, b1⟩
            have k1 := hbel.trans (b1.mono hbel.size)
            go_wp2
            go_roundw
            case rel => exact ⟨k + 1, m, _, by omega, by omega, by go_num, rfl, rfl, g1, g2, k1⟩
            case measure => simp [intOf]; omega
        · have g2 : Hid (hasR d r (rs.take (k + 1)) = f) := hid (by rw [HF3.out, decide_eq_false hz1, Bool.or_false])
          have d0 : (z == 0) = false := by simpa using hz1
          clear HM3 HF3
          cases f
          all_goals
            go_wp2_with fail
            refine HC.out.mono ?_
            rintro e w1 ⟨rfl, b1⟩
            have k1 := hbel.trans (b1.mono hbel.size)
            go_wp2
            go_roundw
            case rel => exact ⟨k + 1, m, _, by omega, by omega, by go_num, rfl, rfl, g1, g2, k1⟩
            case measure => simp [intOf]; omega
    · have e1 : m = n := by rw [← HM.out, List.take_of_length_le (by omega)]; exact HN.out
      have e2 : f = x := by rw [← HF.out, List.take_of_length_le (by omega)]; exact HX.out
      subst e1 e2
      clear HN HX HM HF HCm
      go_wp2
      go_ret2
      exact ⟨rfl, hbel⟩

set_option maxRecDepth 100000 in
set_option maxHeartbeats 2000000 in
theorem ref_dedup (A : Option Addr) (c : Nat) (rs : List (List V)) (w : World) (h : RowsAt w A rs) (hl : rs.length ≤ 100000) (hrl : ∀ r ∈ rs, r.length ≤ 100000 ∧ StrOk r) :
    Calls Tryd.prog 12 #[.slice A rs.length c] w (RetEls w (ded rs rs.length)) := by
  obtain ⟨i0, hi, hz0, hz1, hz2⟩ := info_parts infoRR
  have HA := hid h
  have HRL := hid hrl
  clear h hrl
  go_enter Tryd.func12, Tryd.ntmps12
  go_wp2
  go_loopw [3, 4] (fun v i wr => ∃ (k n : Nat) (l : List El), k ≤ rs.length ∧ n ≤ k ∧ i = .int .i64 k ∧ Hid (OwnEls wr w.heap.size 39 v n l) ∧ Hid (l.map El.r = ded rs k) ∧ Below w.heap.size w wr) (fun _ i _ => rs.length - (intOf i).toNat)
  case atStart => exact ⟨0, 0, [], by omega, by omega, rfl, hid OwnEls.nil, hid rfl, Below.refl _ _⟩
  case round =>
    obtain ⟨k, n, l, hk, hnk, rfl, HO, HM, hbel⟩ := hrel
    have hsz := hbel.size
    by_cases hlt : k < rs.length
    · obtain ⟨b, o, rfl, hcell⟩ := HA.out (by omega)
      obtain ⟨A1, c1, e0, hr1⟩ := hcell k hlt
      obtain ⟨hm1, hm2⟩ := HRL.out _ (List.getElem_mem hlt)
      have hol := HO.out.older hr1 (Nat.le_refl _)
      rw [← hbel.cell (cell_lt e0)] at e0
      have hDY := fun (h : k = 0 ∨ ∃ h : k - 1 < rs.length, rs[k - 1] ≠ rs[k]) => hid (ded_yes hlt h)
      have hPush : Hid (∀ W v2 W2 m, Below wr.heap.size wr W → W2.ownsRow w.heap.size 39 1 v2 (n + 1) (l.map El.val ++ [.slice A1 rs[k].length c1]) → W.grownBy W2 (Value.ownBlock u3) → (v2.ownBlock = Value.ownBlock u3 ∨ v2.ownBlock = some m) → W.heap.size ≤ m → OwnEls W2 w.heap.size 39 v2 (n + 1) (l ++ [⟨A1, c1, rs[k]⟩])) := hid (fun W v2 W2 m kW ho hg hat hmm =>
        (HO.out.below kW).push (l2 := [⟨A1, c1, rs[k]⟩]) ho hg hat hmm (fun x hx => by
          rw [List.mem_singleton] at hx
          subst hx
          exact ⟨(hr1.below hbel).below kW, hol⟩))
      by_cases h0 : k = 0
      · have hD := hDY (Or.inl h0)
        generalize rs[k] = r at *
        have d0 : ((k : Int) == 0) = true := by simp; omega
        clear hcell hr1 hm1 hm2 hol hDY h0
        go_wp2
        go_big_region
        have b1 : Below wr.heap.size wr wr.drew := below_drewN (Below.refl _ _) 1
        generalize wr.drew = w1 at b1 ⊢
        have HO1 := hid (HO.out.below b1)
        have hown1 := HO1.out.1
        have k1 := hbel.trans (b1.mono hsz)
        have hs1 := k1.size
        rw [← b1.cell (cell_lt e0)] at e0
        have HP := hid (fun v2 W2 m => hPush.out w1 v2 W2 m b1)
        clear b1 hPush HO HO1
        go_wp2_with (at_builtin; refine wpList_append_new_at Tryd.underlying26 hi hz0 hz1 hz2 rfl (by decide) (by decide) rfl rfl rfl hown1 rfl (by simp) rfl rfl (by omega) (by omega) ?_; intro v2 w2 hown2 hg2 hat2)
        go_roundw
        case rel => exact ⟨k + 1, n + 1, _, by omega, by omega, by go_num, hid (HP.out v2 w2 _ hown2 hg2 hat2 (by omega)), hid (by rw [List.map_append, HM.out, hD.out]; rfl), k1.trans (grown_below hown1 hg2 (by omega))⟩
        case measure => simp [intOf]; omega
      · obtain ⟨A0, c0, e9, hr0⟩ := hcell (k - 1) (by omega)
        rw [← hbel.cell (cell_lt e9)] at e9
        obtain ⟨hm3, hm4⟩ := HRL.out _ (List.getElem_mem (show k - 1 < rs.length by omega))
        obtain ⟨z, hz⟩ : ∃ z, rowCmp [] rs[k - 1] rs[k] = z := ⟨_, rfl⟩
        have HC := hid (refRow_cmp A0 A1 none c0 c1 0 rs[k - 1] rs[k] [] wr.drew hz (hr0.below hbel.drew) (hr1.below hbel.drew) BoolsAt.nil hm3 hm1 (by simp) hm4 hm2)
        obtain ⟨kp, hkp⟩ : ∃ q, q = k - 1 := ⟨_, rfl⟩
        have ekp : (k : Int) - 1 = (kp : Int) := by omega
        have rkp : IntKind.i64.wrap ((k : Int) - 1) = (kp : Int) := by rw [IntKind.wrap_i64]; omega
        have rkp2 : IntKind.i64.wrap (kp : Int) = (kp : Int) := by rw [IntKind.wrap_i64]; omega
        have hkl : (kp : Int) < (rs.length : Int) := by omega
        have d0 : ((k : Int) == 0) = false := by simp; omega
        have Hkp := hid hkp
        by_cases hzz : z = 0
        · have hD := hid (ded_no hlt (by omega) (rowCmp_zero.1 (hz.trans hzz)))
          subst hzz
          generalize rs[k] = r at *
          generalize rs[k - 1] = r0 at *
          rw [← hkp] at e9
          clear hcell hr1 hm1 hm2 hol hDY h0 hr0 hm3 hm4 hz hkp hPush
          go_wp2
          go_still_tail 12, (by kernel_rfl)
          change wpList _ _ _ _ _ wr.drew
          go_wp2_with fail
          refine HC.out.mono ?_
          rintro e w1 ⟨rfl, b1⟩
          have HO1 := hid ((HO.out.below (below_drewN (Below.refl _ _) 1)).below b1)
          have k1 := hbel.drew.trans (b1.mono hsz)
          clear b1 HO
          go_wp2
          go_roundw
          case rel => exact ⟨k + 1, n, l, by omega, by omega, by go_num, HO1, hid (by rw [HM.out, hD.out]), k1⟩
          case measure => simp [intOf]; omega
        · have hD := hDY (Or.inr ⟨by omega, fun e => hzz (hz.symm.trans (rowCmp_zero.2 e))⟩)
          have dz : (z == 0) = false := by simpa using hzz
          have dz2 : (z != 0) = true := by simpa using hzz
          generalize rs[k] = r at *
          generalize rs[k - 1] = r0 at *
          rw [← hkp] at e9
          clear hcell hr1 hm1 hm2 hol hDY h0 hr0 hm3 hm4 hz hkp
          go_wp2
          go_still_tail 12, (by kernel_rfl)
          change wpList _ _ _ _ _ wr.drew
          go_wp2_with fail
          refine HC.out.mono ?_
          rintro e w1 ⟨rfl, b1'⟩
          have b1 : Below wr.heap.size wr w1 := (below_drewN (Below.refl _ wr) 1).trans b1'
          clear b1' e9 HC
          have HO1 := hid (HO.out.below b1)
          have hown1 := HO1.out.1
          have k1 := hbel.trans (b1.mono hsz)
          have hs1 := k1.size
          rw [← b1.cell (cell_lt e0)] at e0
          have HP := hid (fun v2 W2 m => hPush.out w1 v2 W2 m b1)
          clear b1 hPush HO HO1
          go_wp2_with (at_builtin; refine wpList_append_new_at Tryd.underlying26 hi hz0 hz1 hz2 rfl (by decide) (by decide) rfl rfl rfl hown1 rfl (by simp) rfl rfl (by omega) (by omega) ?_; intro v2 w2 hown2 hg2 hat2)
          go_roundw
          case rel => exact ⟨k + 1, n + 1, _, by omega, by omega, by go_num, hid (HP.out v2 w2 _ hown2 hg2 hat2 (by omega)), hid (by rw [List.map_append, HM.out, hD.out]; rfl), k1.trans (grown_below hown1 hg2 (by omega))⟩
          case measure => simp [intOf]; omega
    · have ek : k = rs.length := by omega
      subst ek
      obtain ⟨A', c', rfl, hn, hE⟩ := HO.out.els
      have HE := hid hE
      have HL := hid hn
      clear hE hn HO
      go_wp2
      go_ret
      exact ⟨A', c', l, (by rw [HL.out]; rfl), HE.out, HM.out, hbel⟩
end Go.Proofs.YtaghaigckgckpaaDoor
