/-
  WALK: ordinallaw02.RowSearches.
-/
import Derived.Test.YtaghaigckgckpaaDoorSo12
import Derived.Test.YtaghaigckgckpaaDoorSo13
import Derived.Laws.AppendOwnNone
namespace Go.Proofs.YtaghaigckgckpaaDoor
open Go.RowKit

theorem c_search {A R D : Option Addr} {c cr cd : Nat} {rs : List (List V)} {r : List V} {d : List Bool} {w : World} (h : RowsAt w A rs) (hr : RowAt w R r) (hd : BoolsAt w D d) (ho : Okr rs) (hrl : r.length ≤ 100000) (hdl : d.length ≤ 100000) :
    Calls Tryd.prog 13 #[.slice A rs.length c, .slice R r.length cr, .slice D d.length cd] w (RetSearch w rs r d) := by
  obtain ⟨l, rfl, hE⟩ := rows_els h
  have hll : (l.map El.r).length = l.length := by simp
  have := row_search A R D c cr cd l r d w hE hr hd (by have := ho.1; omega) (fun x hx => (ho.2 _ (List.mem_map_of_mem hx)).1) hrl hdl
  rw [← hll] at this
  exact this
theorem els_rows {w : World} {B n : Nat} {t : TypeId} {v : Value} {l : List El} {rs : List (List V)} (h : w.ownsRow B t 1 v n (l.map El.val)) (hr : ∀ x ∈ l, RowAt w x.A x.r) (hm : l.map El.r = rs) : ∃ A c, v = .slice A rs.length c ∧ RowsAt w A rs := by
  obtain ⟨A, c, rfl, hn, hE⟩ := own_elsN h hr
  subst hm
  exact ⟨A, c, by rw [List.length_map, hn], hE.rows⟩

set_option maxRecDepth 100000 in
set_option maxHeartbeats 4000000 in
theorem law_searches (A R D : Option Addr) (c cr cd : Nat) (rs : List (List V)) (r : List V) (d : List Bool) (w : World) (h : RowsAt w A rs) (hr : RowAt w R r) (hd : BoolsAt w D d) (hsz : (rs.length + 1) * 24 ≤ 140737488355328) (hA : A = none → c = 0) (hdm : d.length ≤ 9223372036854775807) (ht : Tab w) :
    Calls Tryd.prog 4 #[.slice A rs.length c, .slice R r.length cr, .slice D d.length cd] w fun e w' => e = .returned (.bool true) ∧ Below w.heap.size w w' := by
  obtain ⟨i0, hi, hz0, hz1, hz2⟩ := info_parts infoRow
  obtain ⟨l, hlr, hE⟩ := rows_els h
  have hll : l.length = rs.length := by rw [← hlr, List.length_map]
  have Haw := hid (fun W (kW : Below w.heap.size w W) => awake2 W (ht.below kW))
  -- what the walk's first part leaves
  have HFew := hid (fun (W : World) (v : Value) (n : Nat) (hown : W.ownsRow w.heap.size 35 1 v n (l.map El.val ++ [.slice R r.length cr])) (kW : Below w.heap.size w W) (x : Bool) (hx : fewB (rs ++ [r]) = x) =>
    (show ∃ A1 c1 n1, v = .slice A1 n1 c1 ∧ Calls Tryd.prog 5 #[.slice A1 n1 c1] W fun e w' => e = .returned (.bool x) ∧ Below W.heap.size W w' by
      have hown' : W.ownsRow w.heap.size 35 1 v n ((l ++ [(⟨R, cr, r⟩ : El)]).map El.val) := by rw [List.map_append]; exact hown
      obtain ⟨A1, c1, rfl, hR⟩ := els_rows (rs := rs ++ [r]) hown' (fun y hy => by
        rcases List.mem_append.1 hy with hy | hy
        · exact (hE.2 y hy).below kW
        · rw [List.mem_singleton] at hy
          subst hy
          exact hr.below kW) (by rw [List.map_append, hlr]; rfl)
      exact ⟨A1, c1, _, rfl, law_few A1 c1 (rs ++ [r]) W hR (by simp; omega) hx⟩))
  have HCells := hid (fun (a : Addr) (ha : A = some a) => (show ∀ j u, (l.map El.val)[j]? = some u → w.cell? (a.add j) = some u by subst ha; exact els_cells hE))
  have HN := hid (fun (ha : A = none) => (show l = [] by
    cases l with
    | nil => rfl
    | cons x y => obtain ⟨b, o, e, _⟩ := hE.1 (by simp); rw [ha] at e; cases e))
  have HMain := hid (fun (hF : fewB (rs ++ [r]) = true) (h40 : d.length ≤ 40) => (show Okr rs ∧ Okr (sortR d rs) ∧ rs.length ≤ 40 ∧ r.length ≤ 100000 ∧ StrOk r by
    obtain ⟨h1, h2⟩ := few_ok hF
    have ho : Okr rs := ⟨by have := h2.1; simp at this; omega, fun q hq => h2.2 q (List.mem_append_left _ hq)⟩
    have := h2.2 r (by simp)
    exact ⟨ho, ho.perm (sortR_perm d rs), by simp at h1; omega, this.1, this.2⟩))
  have hRows := hid h
  have hRw := hid hr
  have hBd := hid hd
  have k0 := Below.refl w.heap.size w
  have HLL := hid hll
  have HAc := hid hA
  clear hlr hE hll h hr hd ht hA
  obtain ⟨x, hx⟩ : ∃ x, fewB (rs ++ [r]) = x := ⟨_, rfl⟩
  by_cases hsome : ∃ a, A = some a
  · obtain ⟨a, rfl⟩ := hsome
    cases x with
    | false =>
      go_enter Tryd.func4, Tryd.ntmps4
      go_wp2_with (first
        | (at_builtin; refine wpList_append_own _ rfl _ _ 22 rfl w.heap.size 35 i0 (.slice none 0 0) 1 24 Tryd.underlying22 hi hz0 hz1 hz2 rfl (by decide) (.slice (some ⟨w.heap.size, 0, none⟩) 0 0) 0 [] rfl (World.ownsRow_made w #[] 0 (Nat.le_refl _) (Nat.zero_le _) rfl) a rs.length c (l.map El.val) rfl (by rw [List.length_map, HLL.out]; omega) (fun j u hj => Lib.cell?_alloc_some _ (HCells.out a rfl j u hj)) (els_one l) (by unfold maxLen; omega) (by omega) (by simp) ?_; intro v1 w1 hown0 hg1 _; have hown1 : w1.ownsRow w.heap.size 35 1 v1 rs.length (l.map El.val) := (by have h9 := hown0; rw [Nat.zero_add, List.nil_append] at h9; exact h9); clear hown0; have kb1 := ((Below.refl w.heap.size w).alloc (Nat.le_refl _) (Obj.cells #[] 35)).grown hg1 (by simp) (by intro k hk; simp [Value.ownBlock] at hk; omega); have ks1 := kb1.size)
        | (at_builtin; refine wpList_append_new_at Tryd.underlying22 hi hz0 hz1 hz2 rfl (by decide) (by decide) rfl rfl rfl hown1 rfl (by simp) rfl rfl (by omega) (by omega) ?_; intro v2 w2 hown2 hg2 hat2; have kb2 := kb1.trans (grown_below hown1 hg2 ks1); obtain ⟨A1, c1, n1, rfl, HF⟩ := HFew.out w2 _ _ hown2 kb2 _ hx))
      refine HF.mono ?_
      rintro e w3 ⟨rfl, b3⟩
      have k3 := kb2.trans (b3.mono kb2.size)
      clear b3 kb2 HF
      go_wp2_with fail
      refine (Haw.out _ k3).mono ?_
      rintro e w4 ⟨rfl, b4⟩
      have k4 := k3.trans (b4.mono k3.size)
      go_wp2
      go_ret
      exact ⟨rfl, k4⟩
    | true =>
      by_cases h40 : d.length ≤ 40
      · obtain ⟨ho, hos, hr40, hr1, hr2⟩ := HMain.out hx h40
        have HSort := hid (fun W (kW : Below w.heap.size w W) => c_sort (A := (some a)) (c := c) (cd := cd) (hRows.out.below kW) (hBd.out.below kW) hr40 ho (by omega))
        have HSe := hid (fun (A1 : Option Addr) (c1 : Nat) W (kW : Below w.heap.size w W) (h1 : RowsAt W A1 (sortR d rs)) => c_search (c := c1) (cr := cr) (cd := cd) h1 (hRw.out.below kW) (hBd.out.below kW) hos hr1 (by omega))
        have HSr := hid (fun W (kW : Below w.heap.size w W) => c_search (A := (some a)) (c := c) (cr := cr) (cd := cd) (hRows.out.below kW) (hRw.out.below kW) (hBd.out.below kW) ho hr1 (by omega))
        have HAl := hid (fun (A1 : Option Addr) (c1 : Nat) W (h1 : RowsAt W A1 (sortR d rs)) => c_all (c := c1) h1 hos)
        have HOf := hid (fun W (kW : Below w.heap.size w W) => law_of R cr r W (hRw.out.below kW) hr1)
        have HRf := hid (fun (A1 R1 : Option Addr) (c1 n1 : Nat) W (kW : Below w.heap.size w W) (h1 : RowsAt W A1 (sortR d rs)) (h2 : RowAt W R1 r) => ref_search A1 R1 D c1 n1 cd (sortR d rs) r d W rfl rfl h1 h2 (hBd.out.below kW) (by have := hos.1; omega) hos.2 hr1 hr2 (by omega))
        have HSo := hid (sortR_sorted d rs)
        have d40 : decide (40 < (d.length : Int)) = false := by simp; omega
        have d40' : decide (40 < d.length) = false := by simp; omega
        clear ho hos hr1 hr2 HMain
        generalize sortR d rs = S at *
        go_enter Tryd.func4, Tryd.ntmps4
        go_wp2_with (first
          | (at_builtin; refine wpList_append_own _ rfl _ _ 22 rfl w.heap.size 35 i0 (.slice none 0 0) 1 24 Tryd.underlying22 hi hz0 hz1 hz2 rfl (by decide) (.slice (some ⟨w.heap.size, 0, none⟩) 0 0) 0 [] rfl (World.ownsRow_made w #[] 0 (Nat.le_refl _) (Nat.zero_le _) rfl) a rs.length c (l.map El.val) rfl (by rw [List.length_map, HLL.out]; omega) (fun j u hj => Lib.cell?_alloc_some _ (HCells.out a rfl j u hj)) (els_one l) (by unfold maxLen; omega) (by omega) (by simp) ?_; intro v1 w1 hown0 hg1 _; have hown1 : w1.ownsRow w.heap.size 35 1 v1 rs.length (l.map El.val) := (by have h9 := hown0; rw [Nat.zero_add, List.nil_append] at h9; exact h9); clear hown0; have kb1 := ((Below.refl w.heap.size w).alloc (Nat.le_refl _) (Obj.cells #[] 35)).grown hg1 (by simp) (by intro k hk; simp [Value.ownBlock] at hk; omega); have ks1 := kb1.size)
          | (at_builtin; refine wpList_append_new_at Tryd.underlying22 hi hz0 hz1 hz2 rfl (by decide) (by decide) rfl rfl rfl hown1 rfl (by simp) rfl rfl (by omega) (by omega) ?_; intro v2 w2 hown2 hg2 hat2; have kb2 := kb1.trans (grown_below hown1 hg2 ks1); obtain ⟨A1, c1, n1, rfl, HF⟩ := HFew.out w2 _ _ hown2 kb2 _ hx))
        refine HF.mono ?_
        rintro e w3 ⟨rfl, b3⟩
        have k3 := kb2.trans (b3.mono kb2.size)
        clear b3 kb2 HF
        go_wp2_with fail
        refine (HSort.out _ k3).mono ?_
        rintro e w4 ⟨sp, sc, rfl, sr, b4⟩
        have k4 := k3.trans (b4.mono k3.size)
        clear b4 k3
        go_wp2_with fail
        refine (HSe.out sp sc _ k4 sr).mono ?_
        rintro e w5 ⟨m, f, rfl, _, hmf, b5⟩
        have k5 := k4.trans (b5.mono k4.size)
        replace sr := sr.below b5
        clear b5 k4
        obtain ⟨rfl, rfl⟩ := hmf HSo.out; clear hmf
        go_wp2_with fail
        refine (HAl.out sp sc _ sr).mono ?_
        rintro e w6 ⟨bp, bc, rfl, br, b6⟩
        have k6 := k5.trans (b6.mono k5.size)
        clear b6 k5
        go_wp2_with fail
        refine (HOf.out _ k6).mono ?_
        rintro e w7 ⟨qp, qc, rfl, qr, b7⟩
        have k7 := k6.trans (b7.mono k6.size)
        replace br := br.below b7
        clear b7 k6
        go_wp2_with fail
        refine (HRf.out bp qp bc qc _ k7 br qr).mono ?_
        rintro e w8 ⟨rfl, b8⟩
        have k8 := k7.trans (b8.mono k7.size)
        clear b8 k7
        generalize cntR d r S = N at *
        generalize hasR d r S = X at *
        go_wp2_with fail
        refine (HSr.out _ k8).mono ?_
        rintro e w9 ⟨m2, f2, rfl, hm2, _, b9⟩
        have k9 := k8.trans (b9.mono k8.size)
        clear b9 k8
        have dm : decide ((m2 : Int) ≤ (rs.length : Int)) = true := decide_eq_true (by omega)
        go_wp2_with fail
        refine (Haw.out _ k9).mono ?_
        rintro e w10 ⟨rfl, b10⟩
        have k10 := k9.trans (b10.mono k9.size)
        clear b10 k9
        cases X
        all_goals
          go_wp2
          go_ret
          exact ⟨rfl, k10⟩
      · have d40 : decide (40 < (d.length : Int)) = true := by simp; omega
        have d40' : decide (40 < d.length) = true := by simp; omega
        go_enter Tryd.func4, Tryd.ntmps4
        go_wp2_with (first
          | (at_builtin; refine wpList_append_own _ rfl _ _ 22 rfl w.heap.size 35 i0 (.slice none 0 0) 1 24 Tryd.underlying22 hi hz0 hz1 hz2 rfl (by decide) (.slice (some ⟨w.heap.size, 0, none⟩) 0 0) 0 [] rfl (World.ownsRow_made w #[] 0 (Nat.le_refl _) (Nat.zero_le _) rfl) a rs.length c (l.map El.val) rfl (by rw [List.length_map, HLL.out]; omega) (fun j u hj => Lib.cell?_alloc_some _ (HCells.out a rfl j u hj)) (els_one l) (by unfold maxLen; omega) (by omega) (by simp) ?_; intro v1 w1 hown0 hg1 _; have hown1 : w1.ownsRow w.heap.size 35 1 v1 rs.length (l.map El.val) := (by have h9 := hown0; rw [Nat.zero_add, List.nil_append] at h9; exact h9); clear hown0; have kb1 := ((Below.refl w.heap.size w).alloc (Nat.le_refl _) (Obj.cells #[] 35)).grown hg1 (by simp) (by intro k hk; simp [Value.ownBlock] at hk; omega); have ks1 := kb1.size)
          | (at_builtin; refine wpList_append_new_at Tryd.underlying22 hi hz0 hz1 hz2 rfl (by decide) (by decide) rfl rfl rfl hown1 rfl (by simp) rfl rfl (by omega) (by omega) ?_; intro v2 w2 hown2 hg2 hat2; have kb2 := kb1.trans (grown_below hown1 hg2 ks1); obtain ⟨A1, c1, n1, rfl, HF⟩ := HFew.out w2 _ _ hown2 kb2 _ hx))
        refine HF.mono ?_
        rintro e w3 ⟨rfl, b3⟩
        have k3 := kb2.trans (b3.mono kb2.size)
        clear b3 kb2 HF
        go_wp2_with fail
        refine (Haw.out _ k3).mono ?_
        rintro e w4 ⟨rfl, b4⟩
        have k4 := k3.trans (b4.mono k3.size)
        go_wp2
        go_ret
        exact ⟨rfl, k4⟩
  · have hnone : A = none := by cases A with
      | none => rfl
      | some a => exact absurd ⟨a, rfl⟩ hsome
    have hl0 := HN.out hnone
    have hc0 := HAc.out hnone
    subst hnone hl0 hc0
    have hrs0 : rs.length = 0 := HLL.out.symm
    have hrs1 : rs = [] := List.eq_nil_of_length_eq_zero hrs0
    subst hrs1
    clear hrs0
    cases x with
    | false =>
      go_enter Tryd.func4, Tryd.ntmps4
      have hown1 : (w.alloc (.cells #[] 35)).ownsRow w.heap.size 35 1 (.slice (some ⟨w.heap.size, 0, none⟩) 0 0) 0 [] := (World.ownsRow_made w #[] 0 (Nat.le_refl _) (Nat.zero_le _) rfl)
      have kb1 := below_one w (.cells #[] 35)
      have ks1 := kb1.size
      go_wp2_with (first
        | (at_builtin; refine wpList_append_own_none rfl _ _ _ rfl w.heap.size 35 i0 1 Tryd.underlying22 hi _ 0 [] rfl hown1 rfl ?_)
        | (at_builtin; refine wpList_append_new_at Tryd.underlying22 hi hz0 hz1 hz2 rfl (by decide) (by decide) rfl rfl rfl hown1 rfl (by simp) rfl rfl (by omega) (by omega) ?_; intro v2 w2 hown2 hg2 hat2; have kb2 := kb1.trans (grown_below hown1 hg2 ks1); obtain ⟨A1, c1, n1, rfl, HF⟩ := HFew.out w2 _ _ hown2 kb2 _ hx))
      refine HF.mono ?_
      rintro e w3 ⟨rfl, b3⟩
      have k3 := kb2.trans (b3.mono kb2.size)
      clear b3 kb2 HF
      go_wp2_with fail
      refine (Haw.out _ k3).mono ?_
      rintro e w4 ⟨rfl, b4⟩
      have k4 := k3.trans (b4.mono k3.size)
      go_wp2
      go_ret
      exact ⟨rfl, k4⟩
    | true =>
      by_cases h40 : d.length ≤ 40
      · obtain ⟨ho, hos, hr40, hr1, hr2⟩ := HMain.out hx h40
        have HSort := hid (fun W (kW : Below w.heap.size w W) => c_sort (A := none) (c := 0) (cd := cd) (hRows.out.below kW) (hBd.out.below kW) hr40 ho (by omega))
        have HSe := hid (fun (A1 : Option Addr) (c1 : Nat) W (kW : Below w.heap.size w W) (h1 : RowsAt W A1 (sortR d ([] : List (List V)))) => c_search (c := c1) (cr := cr) (cd := cd) h1 (hRw.out.below kW) (hBd.out.below kW) hos hr1 (by omega))
        have HSr := hid (fun W (kW : Below w.heap.size w W) => c_search (A := none) (c := 0) (cr := cr) (cd := cd) (hRows.out.below kW) (hRw.out.below kW) (hBd.out.below kW) ho hr1 (by omega))
        have HAl := hid (fun (A1 : Option Addr) (c1 : Nat) W (h1 : RowsAt W A1 (sortR d ([] : List (List V)))) => c_all (c := c1) h1 hos)
        have HOf := hid (fun W (kW : Below w.heap.size w W) => law_of R cr r W (hRw.out.below kW) hr1)
        have HRf := hid (fun (A1 R1 : Option Addr) (c1 n1 : Nat) W (kW : Below w.heap.size w W) (h1 : RowsAt W A1 (sortR d ([] : List (List V)))) (h2 : RowAt W R1 r) => ref_search A1 R1 D c1 n1 cd (sortR d ([] : List (List V))) r d W rfl rfl h1 h2 (hBd.out.below kW) (by have := hos.1; omega) hos.2 hr1 hr2 (by omega))
        have HSo := hid (sortR_sorted d ([] : List (List V)))
        have d40 : decide (40 < (d.length : Int)) = false := by simp; omega
        have d40' : decide (40 < d.length) = false := by simp; omega
        clear ho hos hr1 hr2 HMain
        generalize sortR d ([] : List (List V)) = S at *
        go_enter Tryd.func4, Tryd.ntmps4
        have hown1 : (w.alloc (.cells #[] 35)).ownsRow w.heap.size 35 1 (.slice (some ⟨w.heap.size, 0, none⟩) 0 0) 0 [] := (World.ownsRow_made w #[] 0 (Nat.le_refl _) (Nat.zero_le _) rfl)
        have kb1 := below_one w (.cells #[] 35)
        have ks1 := kb1.size
        go_wp2_with (first
          | (at_builtin; refine wpList_append_own_none rfl _ _ _ rfl w.heap.size 35 i0 1 Tryd.underlying22 hi _ 0 [] rfl hown1 rfl ?_)
          | (at_builtin; refine wpList_append_new_at Tryd.underlying22 hi hz0 hz1 hz2 rfl (by decide) (by decide) rfl rfl rfl hown1 rfl (by simp) rfl rfl (by omega) (by omega) ?_; intro v2 w2 hown2 hg2 hat2; have kb2 := kb1.trans (grown_below hown1 hg2 ks1); obtain ⟨A1, c1, n1, rfl, HF⟩ := HFew.out w2 _ _ hown2 kb2 _ hx))
        refine HF.mono ?_
        rintro e w3 ⟨rfl, b3⟩
        have k3 := kb2.trans (b3.mono kb2.size)
        clear b3 kb2 HF
        go_wp2_with fail
        refine (HSort.out _ k3).mono ?_
        rintro e w4 ⟨sp, sc, rfl, sr, b4⟩
        have k4 := k3.trans (b4.mono k3.size)
        clear b4 k3
        go_wp2_with fail
        refine (HSe.out sp sc _ k4 sr).mono ?_
        rintro e w5 ⟨m, f, rfl, _, hmf, b5⟩
        have k5 := k4.trans (b5.mono k4.size)
        replace sr := sr.below b5
        clear b5 k4
        obtain ⟨rfl, rfl⟩ := hmf HSo.out; clear hmf
        go_wp2_with fail
        refine (HAl.out sp sc _ sr).mono ?_
        rintro e w6 ⟨bp, bc, rfl, br, b6⟩
        have k6 := k5.trans (b6.mono k5.size)
        clear b6 k5
        go_wp2_with fail
        refine (HOf.out _ k6).mono ?_
        rintro e w7 ⟨qp, qc, rfl, qr, b7⟩
        have k7 := k6.trans (b7.mono k6.size)
        replace br := br.below b7
        clear b7 k6
        go_wp2_with fail
        refine (HRf.out bp qp bc qc _ k7 br qr).mono ?_
        rintro e w8 ⟨rfl, b8⟩
        have k8 := k7.trans (b8.mono k7.size)
        clear b8 k7
        generalize cntR d r S = N at *
        generalize hasR d r S = X at *
        go_wp2_with fail
        refine (HSr.out _ k8).mono ?_
        rintro e w9 ⟨m2, f2, rfl, hm2, _, b9⟩
        have k9 := k8.trans (b9.mono k8.size)
        clear b9 k8
        obtain rfl : m2 = 0 := by simpa using hm2
        go_wp2_with fail
        refine (Haw.out _ k9).mono ?_
        rintro e w10 ⟨rfl, b10⟩
        have k10 := k9.trans (b10.mono k9.size)
        clear b10 k9
        cases X
        all_goals
          go_wp2
          go_ret
          exact ⟨rfl, k10⟩
      · have d40 : decide (40 < (d.length : Int)) = true := by simp; omega
        have d40' : decide (40 < d.length) = true := by simp; omega
        go_enter Tryd.func4, Tryd.ntmps4
        have hown1 : (w.alloc (.cells #[] 35)).ownsRow w.heap.size 35 1 (.slice (some ⟨w.heap.size, 0, none⟩) 0 0) 0 [] := (World.ownsRow_made w #[] 0 (Nat.le_refl _) (Nat.zero_le _) rfl)
        have kb1 := below_one w (.cells #[] 35)
        have ks1 := kb1.size
        go_wp2_with (first
          | (at_builtin; refine wpList_append_own_none rfl _ _ _ rfl w.heap.size 35 i0 1 Tryd.underlying22 hi _ 0 [] rfl hown1 rfl ?_)
          | (at_builtin; refine wpList_append_new_at Tryd.underlying22 hi hz0 hz1 hz2 rfl (by decide) (by decide) rfl rfl rfl hown1 rfl (by simp) rfl rfl (by omega) (by omega) ?_; intro v2 w2 hown2 hg2 hat2; have kb2 := kb1.trans (grown_below hown1 hg2 ks1); obtain ⟨A1, c1, n1, rfl, HF⟩ := HFew.out w2 _ _ hown2 kb2 _ hx))
        refine HF.mono ?_
        rintro e w3 ⟨rfl, b3⟩
        have k3 := kb2.trans (b3.mono kb2.size)
        clear b3 kb2 HF
        go_wp2_with fail
        refine (Haw.out _ k3).mono ?_
        rintro e w4 ⟨rfl, b4⟩
        have k4 := k3.trans (b4.mono k3.size)
        go_wp2
        go_ret
        exact ⟨rfl, k4⟩
end Go.Proofs.YtaghaigckgckpaaDoor
