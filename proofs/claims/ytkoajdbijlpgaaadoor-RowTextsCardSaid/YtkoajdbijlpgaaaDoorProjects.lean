/-
  WALK: ordinallaw02.RowProjects.
-/
import Derived.Test.YtkoajdbijlpgaaaDoorRef2
import Derived.Test.YtkoajdbijlpgaaaDoorFew
import Derived.Test.YtkoajdbijlpgaaaDoorOrd
namespace Go.Proofs.YtkoajdbijlpgaaaDoor
open Go.RowKit

theorem rowsAt1 {w : World} {g : Nat} {t : TypeId} {fz : Nat × Nat} {A0 : Option Addr} {c0 : Nat} {a : List V} (h0 : RowAt w A0 a)
    (h : w.heap[g]? = some (.cells #[.slice A0 a.length c0] t fz)) : RowsAt w (some ⟨g, 0, none⟩) [a] := by
  intro _
  refine ⟨g, 0, rfl, fun i hi => ?_⟩
  match i, hi with
  | 0, _ => exact ⟨A0, c0, by rw [cell_of_row w g _ _ t fz h]; rfl, h0⟩

theorem few1 {a : List V} (h : fewB [a] = true) : a.length ≤ 20 ∧ StrOk a := by
  simp [fewB, fewRow] at h
  exact ⟨h.1, fun v hv => by have := h.2 v hv; omega⟩

theorem strOk_proj {r : List V} {cols : List Int} (h : StrOk r) (hp : projOk r.length cols = true) : StrOk (projV r cols) := by
  intro v hv
  obtain ⟨n, hn, rfl⟩ := List.mem_map.1 hv
  have := List.all_eq_true.1 hp n hn
  simp [colOk] at this
  have hq : n.toNat < r.length := by omega
  simp only [List.getD, List.getElem?_eq_getElem hq, Option.getD_some]
  exact h _ (List.getElem_mem hq)

set_option maxRecDepth 100000 in
set_option maxHeartbeats 4000000 in
theorem law_projects (A D : Option Addr) (c cd : Nat) (r : List V) (cols : List Int) (w : World) (hr : RowAt w A r) (hcs : IntsAt w D cols) (ht : Tab w) :
    Calls Tryd.prog 4 #[.slice A r.length c, .slice D cols.length cd] w fun e w' => e = .returned (.bool true) ∧ Below w.heap.size w w' := by
  have hbx := below_one w (.cells #[.slice A r.length c] 23)
  have Haw := fun W (h : Below w.heap.size w W) => hid (awake2 W (ht.below h))
  have Hfew := fun (x : Bool) (hx : fewB [r] = x) => hid (law_few (some ⟨w.heap.size, 0, none⟩) 1 [r] _ (rowsAt1 (hr.below hbx) (heap1 w _)) (by simp) hx)
  have finish : ∀ x, fewB [r] = x → (x = false ∨ 40 < cols.length) → Calls Tryd.prog 4 #[.slice A r.length c, .slice D cols.length cd] w fun e w' => e = .returned (.bool true) ∧ Below w.heap.size w w' := by
    intro x hx hor
    have HF := Hfew x hx
    have HX := hid hx
    clear hx Hfew hr hcs ht
    cases x
    · clear hor
      go_enter Tryd.func4, Tryd.ntmps4
      go_wp2_with fail
      refine (HF.out).mono ?_
      rintro e w1 ⟨rfl, hb1⟩
      have h1 := hbx.trans (hb1.mono hbx.size)
      go_wp2_with fail
      refine ((Haw _ h1).out).mono ?_
      rintro e w2 ⟨rfl, hb2⟩
      go_wp2
      go_ret
      exact ⟨rfl, h1.trans (hb2.mono h1.size)⟩
    · have hc : 40 < cols.length := by rcases hor with h | h; cases h; exact h
      clear hor
      go_enter Tryd.func4, Tryd.ntmps4
      go_wp2_with fail
      refine (HF.out).mono ?_
      rintro e w1 ⟨rfl, hb1⟩
      have h1 := hbx.trans (hb1.mono hbx.size)
      go_wp2_with fail
      refine ((Haw _ h1).out).mono ?_
      rintro e w2 ⟨rfl, hb2⟩
      go_wp2
      go_ret
      exact ⟨rfl, h1.trans (hb2.mono h1.size)⟩
  cases hF : fewB [r]
  · exact finish _ hF (.inl rfl)
  · by_cases h40 : 40 < cols.length
    · exact finish _ hF (.inr h40)
    · clear finish
      obtain ⟨hl, hso⟩ := few1 hF
      have HF := Hfew _ hF
      have HFF := hid hF
      clear Hfew hF
      have hcl : cols.length ≤ 40 := by omega
      have Hof := fun W (h : Below w.heap.size w W) => hid (law_of A c r W (hr.below h) (by omega))
      have HofN := fun W (h : Below w.heap.size w W) => hid (law_of_new A c r W (hr.below h) (by omega))
      have Hpr := fun W (h : Below w.heap.size w W) => hid (row_project A D c cd r cols W (hr.below h) (hcs.below h) (by omega) (by omega))
      have Hrp := fun (A' : Option Addr) (c' : Nat) W (h : Below w.heap.size w W) (hx : RowAt W A' r) => hid (ref_project A' D c' cd r cols W hx (hcs.below h) (by omega) (by omega))
      have Hcc := fun (A1 A2 : Option Addr) (c1 c2 : Nat) W (h1 : RowAt W A1 r) (h2 : RowAt W A2 r) => hid (refRow_cmp A1 A2 none c1 c2 0 r r [] W ((rowCmp_ord []).refl r) h1 h2 BoolsAt.nil (by omega) (by omega) (by simp) hso hso)
      clear hr hcs ht
      have d40 : decide (40 < (cols.length : Int)) = false := by simp; omega
      have d40' : decide (40 < cols.length) = false := by simp; omega
      cases hp : projOk r.length cols
      · have HP := hid hp
        clear hp h40
        go_enter Tryd.func4, Tryd.ntmps4
        go_wp2_with fail
        refine (HF.out).mono ?_
        rintro e w1 ⟨rfl, hb1⟩
        have k1 := hbx.trans (hb1.mono hbx.size)
        clear hb1 HF hbx
        go_wp2_with fail
        refine ((Hof _ k1).out).mono ?_
        rintro e w2 ⟨A2, c2, rfl, hx2, hb2⟩
        have k2 := k1.trans (hb2.mono k1.size)
        clear hb2 k1
        go_wp2_with fail
        refine ((Hrp A2 c2 _ k2 hx2).out).mono ?_
        rintro e w3 ⟨-, hq3, hb3⟩
        obtain rfl := hq3 HP.out
        have k3 := k2.trans (hb3.mono k2.size)
        clear hb3 hx2 hq3 k2
        go_wp2_with fail
        refine ((Hpr _ k3).out).mono ?_
        rintro e w4 ⟨-, hq4, hb4⟩
        obtain rfl := hq4 HP.out
        have k4 := k3.trans (hb4.mono k3.size)
        clear hb4 hq4 k3
        go_wp2_with fail
        refine (law_of none 0 [] w4 RowAt.nil (by simp)).mono ?_
        rintro e w5 ⟨A5, c5, rfl, hx5, hb5⟩
        have k5 := k4.trans (hb5.mono k4.size)
        clear hb5 k4
        go_wp2_with fail
        refine (refRow_cmp A5 none none c5 0 0 [] [] [] w5 (x := 0) (by simp [rowCmp]) hx5 RowAt.nil BoolsAt.nil (by simp) (by simp) (by simp) (by intro v hv; cases hv) (by intro v hv; cases hv)).mono ?_
        rintro e w6 ⟨rfl, hb6⟩
        have k6 := k5.trans (hb6.mono k5.size)
        clear hb6 k5 hx5
        go_wp2_with fail
        refine ((Hof _ k6).out).mono ?_
        rintro e w7 ⟨A7, c7, rfl, hx7, hb7⟩
        have k7 := k6.trans (hb7.mono k6.size)
        clear hb7 k6
        go_wp2_with fail
        refine wp_loop_rounds 1 ?_
        rw [rounds_succ]
        go_wp2_with fail
        refine ((Haw _ k7).out).mono ?_
        rintro e w8 ⟨rfl, hb8⟩
        have k8 := k7.trans (hb8.mono k7.size)
        have hx8 := hx7.below hb8
        clear hb8 k7 hx7
        go_wp2_with fail
        refine ((Hof _ k8).out).mono ?_
        rintro e w9 ⟨A9, c9, rfl, hx9, hb9⟩
        have k9 := k8.trans (hb9.mono k8.size)
        have hx8' := hx8.below hb9
        clear hb9 k8 hx8
        go_wp2_with fail
        refine ((Hcc A9 A7 c9 c7 w9 hx9 hx8').out).mono ?_
        rintro e w10 ⟨rfl, hb10⟩
        go_wp2
        go_ret
        exact ⟨rfl, k9.trans (hb10.mono k9.size)⟩
      · have HP := hid hp
        have hsq := strOk_proj hso hp
        clear hp h40
        go_enter Tryd.func4, Tryd.ntmps4
        go_wp2_with fail
        refine (HF.out).mono ?_
        rintro e w1 ⟨rfl, hb1⟩
        have k1 := hbx.trans (hb1.mono hbx.size)
        clear hb1 HF hbx
        go_wp2_with fail
        refine ((Hof _ k1).out).mono ?_
        rintro e w2 ⟨A2, c2, rfl, hx2, hb2⟩
        have k2 := k1.trans (hb2.mono k1.size)
        clear hb2 k1
        go_wp2_with fail
        refine ((Hrp A2 c2 _ k2 hx2).out).mono ?_
        rintro e w3 ⟨hq3, -, hb3⟩
        obtain ⟨A3, c3, he3, hx3⟩ := hq3 HP.out
        rw [← projV_length r cols] at he3
        subst he3
        have k3 := k2.trans (hb3.mono k2.size)
        clear hb3 hx2 hq3 k2
        go_wp2_with fail
        refine ((Hpr _ k3).out).mono ?_
        rintro e w4 ⟨hq4, -, hb4⟩
        obtain ⟨g, n4, he4, hown⟩ := hq4 HP.out
        rw [← projV_length r cols] at he4 hown
        subst he4
        have hsz0 := k3.size
        have k4 := k3.trans (hb4.mono k3.size)
        have hx3' := hx3.below hb4
        clear hb4 hq4 k3 hx3 HP
        have hql : (projV r cols).length ≤ 100000 := by rw [projV_length]; omega
        generalize projV r cols = q at *
        have hgl := hown.lt g rfl
        obtain ⟨A4, n4', he5, hx4⟩ := own_row hown
        injection he5 with he5 he6 he7
        subst he5 he7
        clear he6
        go_wp2_with fail
        refine (law_of _ _ q w4 hx4 hql).mono ?_
        rintro e w5 ⟨A5, c5, rfl, hx5, hb5⟩
        have k5 := k4.trans (hb5.mono k4.size)
        have hown5 := own_below hown hb5
        have hx3'' := hx3'.below hb5
        have hs5 := hb5.size
        clear hb5 k4 hx3' hown hx4
        go_wp2_with fail
        refine (refRow_cmp A5 A3 none c5 c3 0 q q [] w5 ((rowCmp_ord []).refl q) hx5 hx3'' BoolsAt.nil hql hql (by simp) hsq hsq).mono ?_
        rintro e w6 ⟨rfl, hb6⟩
        have k6 := k5.trans (hb6.mono k5.size)
        have hown6 := own_below hown5 hb6
        have hs6 := hb6.size
        clear hb6 k5 hx5 hx3'' hown5
        go_wp2_with fail
        refine ((HofN _ k6).out).mono ?_
        rintro e w7 ⟨A7, c7, rfl, hx7, hn7, -, hb7⟩
        have k7 := k6.trans (hb7.mono k6.size)
        have hown7 := own_below hown6 hb7
        have hne : ∀ ad, A7 = some ad → ad.block ≠ g := fun ad he => by have := hn7 ad he; omega
        have Hne := hid hne
        clear hb7 k6 hown6 hn7 hne
        go_wp2_with fail
        go_loopw [48] (fun i wr => ∃ (j : Nat) (xs : List Value), j ≤ q.length ∧ i = .int .i64 j ∧ wr.ownsRow w3.heap.size 41 3 (.slice (some ⟨g, 0, none⟩) q.length n4) q.length xs ∧ w7.grownBy wr (some g)) (fun i _ => q.length - (intOf i).toNat)
        case atStart => exact ⟨0, _, by omega, rfl, hown7, grown_refl _ _⟩
        case round =>
          obtain ⟨j, xs, hj, rfl, hown, hgr⟩ := hrel
          by_cases hjt : j < q.length
          · have hxl := hown.1
            have z0 : wr.cell? ⟨g, j * 3, none⟩ = some xs[j * 3] := by rw [hown.cellAt _ (by omega)]; simp
            have z1 : wr.cell? ⟨g, j * 3 + 1, none⟩ = some xs[j * 3 + 1] := by rw [hown.cellAt _ (by omega)]; simp
            have z2 : wr.cell? ⟨g, j * 3 + 2, none⟩ = some xs[j * 3 + 2] := by rw [hown.cellAt _ (by omega)]; simp
            have f0 := hown.frozenAt (j * 3)
            have f1 := hown.frozenAt (j * 3 + 1)
            have f2 := hown.frozenAt (j * 3 + 2)
            generalize xs[j * 3] = x0 at *
            generalize xs[j * 3 + 1] = x1 at *
            generalize xs[j * 3 + 2] = x2 at *
            go_wp2
            obtain ⟨hown2, -⟩ := own_store3 hown hgl.1 (j * 3) (.int .i64 0) (.int .i64 0) (.string ⟨#[]⟩)
            go_roundw
            case rel => exact ⟨j + 1, _, by omega, by go_num, hown2, grown_set (grown_set (grown_set hgr _ _) _ _) _ _⟩
            case measure => simp [intOf]; omega
          · have k7' : Below w.heap.size w wr := k7.trans (below_of_grown hgr (by omega) k7.size)
            have hx7' := hx7.grown hgr Hne.out
            clear hown hgr hx7 Hne hown7 k7
            go_wp2_with fail
            refine ((Haw _ k7').out).mono ?_
            rintro e w8 ⟨rfl, hb8⟩
            have k8 := k7'.trans (hb8.mono k7'.size)
            have hx8 := hx7'.below hb8
            clear hb8 k7' hx7'
            go_wp2_with fail
            refine ((Hof _ k8).out).mono ?_
            rintro e w9 ⟨A9, c9, rfl, hx9, hb9⟩
            have k9 := k8.trans (hb9.mono k8.size)
            have hx8' := hx8.below hb9
            clear hb9 k8 hx8
            go_wp2_with fail
            refine ((Hcc A9 A7 c9 c7 w9 hx9 hx8').out).mono ?_
            rintro e w10 ⟨rfl, hb10⟩
            go_wp2
            go_ret
            exact ⟨rfl, k9.trans (hb10.mono k9.size)⟩
end Go.Proofs.YtkoajdbijlpgaaaDoor
