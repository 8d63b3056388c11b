/-
  WALK: ordinallaw02.RowSorts.
-/
import Derived.Test.YtaghaigckgckpaaDoorSo10
import Derived.Test.YtaghaigckgckpaaDoorSo11
namespace Go.Proofs.YtaghaigckgckpaaDoor
open Go.RowKit

/-- A call that returns a slice of these rows. -/
def RetRows (w : World) (rs : List (List V)) (e : Ending) (w' : World) : Prop := ∃ A c, e = .returned (.slice A rs.length c) ∧ RowsAt w' A rs ∧ Below w.heap.size w w'
theorem RetEls.rows {w w' : World} {rs : List (List V)} {e : Ending} (h : RetEls w rs e w') : RetRows w rs e w' := by
  obtain ⟨A, c, l, he, hE, hm, hb⟩ := h
  have hl : l.length = rs.length := by rw [← hm, List.length_map]
  exact ⟨A, c, by rw [he, hl], by rw [← hm]; exact hE.rows, hb⟩
/-- Rows that the law looks at. -/
def Okr (rs : List (List V)) : Prop := rs.length ≤ 41 ∧ ∀ r ∈ rs, r.length ≤ 100000 ∧ StrOk r
theorem few_ok {rs : List (List V)} (h : fewB rs = true) : rs.length ≤ 40 ∧ Okr rs := by
  simp only [fewB, Bool.and_eq_true, List.all_eq_true, decide_eq_true_eq] at h
  obtain ⟨h1, h2⟩ := h
  refine ⟨h2, by omega, fun r hr => ?_⟩
  have := h1 r hr
  simp only [fewRow, Bool.and_eq_true, List.all_eq_true, decide_eq_true_eq] at this
  exact ⟨by omega, fun v hv => by have := this.2 v hv; omega⟩
theorem Okr.perm {rs rs' : List (List V)} (h : Okr rs) (hp : rs'.Perm rs) : Okr rs' := ⟨by rw [hp.length_eq]; exact h.1, fun r hr => h.2 r (hp.mem_iff.1 hr)⟩
theorem ded_mem {rs : List (List V)} : ∀ {k : Nat}, k ≤ rs.length → ∀ r ∈ ded rs k, r ∈ rs
  | 0, _, r, hr => by cases hr
  | k + 1, hk, r, hr => by
    rcases List.mem_append.1 hr with hr | hr
    · exact ded_mem (by omega) r hr
    · split at hr
      · rw [List.mem_singleton] at hr
        rw [hr]
        simp [List.getD, show k < rs.length by omega]
      · cases hr
theorem Okr.ded {rs : List (List V)} (h : Okr rs) : Okr (ded rs rs.length) := ⟨by have := ded_len rs rs.length; have := h.1; omega, fun r hr => h.2 r (ded_mem (Nat.le_refl _) r hr)⟩
section
variable {A B D : Option Addr} {c c' cd : Nat} {rs : List (List V)} {d : List Bool} {w : World}
theorem c_all (h : RowsAt w A rs) (ho : Okr rs) : Calls Tryd.prog 7 #[.slice A rs.length c] w (RetRows w rs) := (law_all A c rs w h (by have := ho.1; omega) (fun r hr => (ho.2 r hr).1)).mono fun _ _ h => h.rows
theorem c_sort (h : RowsAt w A rs) (hd : BoolsAt w D d) (hl : rs.length ≤ 40) (ho : Okr rs) (hdl : d.length ≤ 100000) : Calls Tryd.prog 8 #[.slice A rs.length c, .slice D d.length cd] w (RetRows w (sortR d rs)) := (row_sort A D c cd rs d w h hd hl (fun r hr => (ho.2 r hr).1) hdl).mono fun _ _ h => h.rows
theorem c_dedup (h : RowsAt w A rs) (ho : Okr rs) : Calls Tryd.prog 9 #[.slice A rs.length c] w (RetRows w (ded rs rs.length)) := (row_dedup A c rs w h (by have := ho.1; omega) (fun r hr => (ho.2 r hr).1)).mono fun _ _ h => h.rows
theorem c_rdedup (h : RowsAt w A rs) (ho : Okr rs) : Calls Tryd.prog 12 #[.slice A rs.length c] w (RetRows w (ded rs rs.length)) := (ref_dedup A c rs w h (by have := ho.1; omega) ho.2).mono fun _ _ h => h.rows
theorem c_rsort (h : RowsAt w A rs) (hd : BoolsAt w D d) (ho : Okr rs) (hdl : d.length ≤ 100000) : Calls Tryd.prog 11 #[.slice A rs.length c, .slice D d.length cd] w (RetRows w (sortR d rs)) := by
  obtain ⟨l, rfl, hE⟩ := rows_els h
  have hll : (l.map El.r).length = l.length := by simp
  have := ref_sort A D c cd l d w hE hd (by have := ho.1; omega) (fun x hx => ho.2 _ (List.mem_map_of_mem hx)) hdl
  rw [← hll] at this
  exact this.mono fun _ _ h => h.rows
theorem c_same (h : RowsAt w A rs) (h' : RowsAt w B rs) (ho : Okr rs) : Calls Tryd.prog 10 #[.slice A rs.length c, .slice B rs.length c'] w fun e w' => e = .returned (.bool true) ∧ Below w.heap.size w w' := law_same2 A B c c' rs w h h' (by have := ho.1; omega) ho.2
end

set_option maxRecDepth 100000 in
set_option maxHeartbeats 4000000 in
theorem law_sorts (A D : Option Addr) (c cd : Nat) (rs : List (List V)) (d : List Bool) (w : World) (h : RowsAt w A rs) (hd : BoolsAt w D d) (hl : rs.length ≤ 9223372036854775807) (hdm : d.length ≤ 9223372036854775807) (ht : Tab w) :
    Calls Tryd.prog 3 #[.slice A rs.length c, .slice D d.length cd] w fun e w' => e = .returned (.bool true) ∧ Below w.heap.size w w' := by
  have Haw := hid (fun W (kW : Below w.heap.size w W) => awake2 W (ht.below kW))
  have Hfew := hid (fun (x : Bool) (hx : fewB rs = x) => law_few A c rs w h hl hx)
  by_cases hmain : fewB rs = true ∧ d.length ≤ 40
  · obtain ⟨hF, h40⟩ := hmain
    obtain ⟨hr40, ho⟩ := few_ok hF
    have HF := hid (Hfew.out _ hF)
    have hos : Okr (sortR d rs) := ho.perm (sortR_perm d rs)
    have hod : Okr (ded rs rs.length) := ho.ded
    have hsl : (sortR d rs).length ≤ 40 := by rw [(sortR_perm d rs).length_eq]; exact hr40
    have HAll := hid (fun W (kW : Below w.heap.size w W) => c_all (c := c) (h.below kW) ho)
    have HSort := hid (fun W (kW : Below w.heap.size w W) => c_sort (c := c) (cd := cd) (h.below kW) (hd.below kW) hr40 ho (by omega))
    have HDed := hid (fun W (kW : Below w.heap.size w W) => c_dedup (c := c) (h.below kW) ho)
    have HRs := hid (fun (A1 : Option Addr) (c1 : Nat) W (kW : Below w.heap.size w W) (h1 : RowsAt W A1 rs) => c_rsort (c := c1) (cd := cd) h1 (hd.below kW) ho (by omega))
    have HRd := hid (fun (A1 : Option Addr) (c1 : Nat) W (h1 : RowsAt W A1 rs) => c_rdedup (c := c1) h1 ho)
    have HSs := hid (fun (A1 A2 : Option Addr) (c1 c2 : Nat) W (h1 : RowsAt W A1 (sortR d rs)) (h2 : RowsAt W A2 (sortR d rs)) => c_same (c := c1) (c' := c2) h1 h2 hos)
    have HSd := hid (fun (A1 A2 : Option Addr) (c1 c2 : Nat) W (h1 : RowsAt W A1 (ded rs rs.length)) (h2 : RowsAt W A2 (ded rs rs.length)) => c_same (c := c1) (c' := c2) h1 h2 hod)
    have HSr := hid (fun (A2 : Option Addr) (c2 : Nat) W (kW : Below w.heap.size w W) (h2 : RowsAt W A2 rs) => c_same (c := c) (c' := c2) (h.below kW) h2 ho)
    have HAgain := hid (fun (A1 : Option Addr) (c1 : Nat) W (kW : Below w.heap.size w W) (h1 : RowsAt W A1 (sortR d rs)) => (show Calls _ _ _ _ (RetRows W (sortR d rs)) by
      have := c_sort (c := c1) (cd := cd) h1 (hd.below kW) hsl hos (by omega)
      rw [sortR_again] at this
      exact this))
    have HAlls := hid (fun (A1 : Option Addr) (c1 : Nat) W (h1 : RowsAt W A1 (sortR d rs)) => c_all (c := c1) h1 hos)
    have d40 : decide (40 < (d.length : Int)) = false := by simp; omega
    have d40' : decide (40 < d.length) = false := by simp; omega
    have k0 := Below.refl w.heap.size w
    clear h hd hl ht Hfew hos hod hsl ho hF
    generalize sortR d rs = S at *
    generalize ded rs rs.length = E at *
    go_enter Tryd.func3, Tryd.ntmps3
    go_wp2_with fail
    refine (HF.out).mono ?_
    rintro e w1 ⟨rfl, b1⟩
    have k1 := k0.trans (b1.mono k0.size)
    clear b1 k0
    go_wp2_with fail
    refine (HAll.out _ k1).mono ?_
    rintro e w2 ⟨bp, bc, rfl, br, b2⟩
    have k2 := k1.trans (b2.mono k1.size)
    clear b2 k1
    go_wp2_with fail
    refine (HSort.out _ k2).mono ?_
    rintro e w3 ⟨sp, sc, rfl, sr, b3⟩
    have k3 := k2.trans (b3.mono k2.size)
    replace br := br.below b3
    clear b3 k2
    go_wp2_with fail
    refine (HDed.out _ k3).mono ?_
    rintro e w4 ⟨dp, dc, rfl, dr, b4⟩
    have k4 := k3.trans (b4.mono k3.size)
    replace br := br.below b4
    replace sr := sr.below b4
    clear b4 k3
    go_wp2_with fail
    refine (Haw.out _ k4).mono ?_
    rintro e w5 ⟨rfl, b5⟩
    have k5 := k4.trans (b5.mono k4.size)
    replace br := br.below b5
    replace sr := sr.below b5
    replace dr := dr.below b5
    clear b5 k4
    go_wp2_with fail
    refine (HRs.out bp bc _ k5 br).mono ?_
    rintro e w6 ⟨tp, tc, rfl, tr, b6⟩
    have k6 := k5.trans (b6.mono k5.size)
    replace br := br.below b6
    replace sr := sr.below b6
    replace dr := dr.below b6
    clear b6 k5
    go_wp2_with fail
    refine (HSs.out sp tp sc tc _ sr tr).mono ?_
    rintro e w7 ⟨rfl, b7⟩
    have k7 := k6.trans (b7.mono k6.size)
    replace br := br.below b7
    replace sr := sr.below b7
    replace dr := dr.below b7
    clear b7 k6
    go_wp2_with fail
    refine (HRd.out bp bc _ br).mono ?_
    rintro e w8 ⟨fp, fc, rfl, fr, b8⟩
    have k8 := k7.trans (b8.mono k7.size)
    replace br := br.below b8
    replace sr := sr.below b8
    replace dr := dr.below b8
    clear b8 k7
    go_wp2_with fail
    refine (HSd.out dp fp dc fc _ dr fr).mono ?_
    rintro e w9 ⟨rfl, b9⟩
    have k9 := k8.trans (b9.mono k8.size)
    replace br := br.below b9
    replace sr := sr.below b9
    clear b9 k8
    go_wp2_with fail
    refine (HSr.out bp bc _ k9 br).mono ?_
    rintro e w10 ⟨rfl, b10⟩
    have k10 := k9.trans (b10.mono k9.size)
    replace sr := sr.below b10
    clear b10 k9
    go_wp2_with fail
    refine (HAgain.out sp sc _ k10 sr).mono ?_
    rintro e w11 ⟨gp, gc, rfl, gr, b11⟩
    have k11 := k10.trans (b11.mono k10.size)
    replace sr := sr.below b11
    clear b11 k10
    go_wp2_with fail
    refine (HAlls.out sp sc _ sr).mono ?_
    rintro e w12 ⟨ip, ic, rfl, ir, b12⟩
    have k12 := k11.trans (b12.mono k11.size)
    replace gr := gr.below b12
    clear b12 k11
    go_wp2_with fail
    refine (HSs.out gp ip gc ic _ gr ir).mono ?_
    rintro e w13 ⟨rfl, b13⟩
    have k13 := k12.trans (b13.mono k12.size)
    clear b13 k12
    go_wp2
    go_ret
    exact ⟨rfl, k13⟩
  · have hF : ∀ x, fewB rs = x → x = true → ¬ d.length ≤ 40 := fun x hx hxt h40 => hmain ⟨hx.trans hxt, h40⟩
    obtain ⟨x, hx⟩ : ∃ x, fewB rs = x := ⟨_, rfl⟩
    have HF := hid (Hfew.out x hx)
    have hF2 := hF x hx
    have k0 := Below.refl w.heap.size w
    clear h hd hl ht Hfew hF hx hmain
    cases x with
    | false =>
      clear hF2
      go_enter Tryd.func3, Tryd.ntmps3
      go_wp2_with fail
      refine HF.out.mono ?_
      rintro e w1 ⟨rfl, b1⟩
      have k1 := k0.trans (b1.mono k0.size)
      clear b1 k0 HF
      go_wp2_with fail
      refine (Haw.out _ k1).mono ?_
      rintro e w2 ⟨rfl, b2⟩
      have k2 := k1.trans (b2.mono k1.size)
      go_wp2
      go_ret
      exact ⟨rfl, k2⟩
    | true =>
      have h40 := hF2 rfl
      have d40 : decide (40 < (d.length : Int)) = true := by simp; omega
      have d40' : decide (40 < d.length) = true := by simp; omega
      clear hF2
      go_enter Tryd.func3, Tryd.ntmps3
      go_wp2_with fail
      refine HF.out.mono ?_
      rintro e w1 ⟨rfl, b1⟩
      have k1 := k0.trans (b1.mono k0.size)
      clear b1 k0 HF
      go_wp2_with fail
      refine (Haw.out _ k1).mono ?_
      rintro e w2 ⟨rfl, b2⟩
      have k2 := k1.trans (b2.mono k1.size)
      go_wp2
      go_ret
      exact ⟨rfl, k2⟩
end Go.Proofs.YtaghaigckgckpaaDoor
