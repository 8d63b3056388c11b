/-
  WALK: slices.EqualFunc at rules with ast.equalRule.
-/
import Derived.Test.YtgeapgbebbapmaaDoorEq4
namespace Go.Proofs.YtgeapgbebbapmaaDoor
open Go.RowKit

set_option maxRecDepth 100000 in
set_option maxHeartbeats 4000000 in
theorem eq_rules (A A' : Option Addr) (c c' : Nat) (l l' : List Rul) (w : World) (h : RulsAt w A l) (h' : RulsAt w A' l') (hm : l.length ≤ 9223372036854775807) (hm' : l'.length ≤ 9223372036854775807) {b : Bool} (hb : b = true ↔ l = l') :
    Calls Tryd.prog 42 #[.slice A l.length c, .slice A' l'.length c', .func (.func 43) #[] #[]] w fun e w' => e = .returned (.bool b) ∧ Below w.heap.size w w' := by
  have HB := hid hb
  have H1 := hid h
  have H2 := hid h'
  clear hb h h'
  by_cases hl : l.length = l'.length
  · have bl : ((l.length : Int) != (l'.length : Int)) = false := by rw [bne_eq_false_iff_eq]; omega
    have HL := hid hl
    clear hl
    go_enter Tryd.func42, Tryd.ntmps42
    go_wp2
    go_loopw [17] (fun i wr => ∃ k : Nat, k ≤ l.length ∧ i = .int .i64 k ∧ Hid (l.take k = l'.take k) ∧ Hid (Below w.heap.size w wr)) (fun i _ => l.length - (intOf i).toNat)
    case atStart => exact ⟨0, by omega, rfl, hid (by simp), hid (Below.refl _ _)⟩
    case round =>
      obtain ⟨k, hk, rfl, HK, HW⟩ := hrel
      rename World => wo
      by_cases hlt : k < l.length
      · have hlt' : k < l'.length := by have := HL.out; omega
        obtain ⟨g, o, rfl, hc⟩ := H1.out (by omega)
        obtain ⟨g', o', rfl, hc'⟩ := H2.out (by omega)
        obtain ⟨T, q, U, d, c0, c1, ht, hu, _, _, mt, mu⟩ := hc k hlt
        obtain ⟨T', q', U', d', e0, e1, ht', hu', _, _, mt', mu'⟩ := hc' k hlt'
        have hon := fun h => tk_on hlt hlt' HK.out h
        have hne := fun h => tk_ne hlt hlt' h
        replace c0 := cell_keep HW.out c0
        replace c1 := cell_keep HW.out c1
        replace e0 := cell_keep HW.out e0
        replace e1 := cell_keep HW.out e1
        obtain ⟨x, ex⟩ : ∃ x, l[k] = x := ⟨_, rfl⟩
        obtain ⟨y, ey⟩ : ∃ x, l'[k] = x := ⟨_, rfl⟩
        rw [ex] at c0 c1 ht hu mt mu
        rw [ey] at e0 e1 ht' hu' mt' mu'
        rw [ex, ey] at hon hne
        obtain ⟨bt, hbt⟩ := bool_of (x = y)
        have CE := fun W (k : Below w.heap.size w W) => hid (eq_rule x y T T' U U' q q' d d' W (ht.below k) (ht'.below k) (hu.below k) (hu'.below k) mt mt' mu mu' hbt)
        obtain ⟨n, hn⟩ : ∃ n, x.atoms.length = n := ⟨_, rfl⟩
        obtain ⟨n', hn'⟩ : ∃ n, y.atoms.length = n := ⟨_, rfl⟩
        obtain ⟨p, hp⟩ : ∃ n, x.conds.length = n := ⟨_, rfl⟩
        obtain ⟨p', hp'⟩ : ∃ n, y.conds.length = n := ⟨_, rfl⟩
        rw [hn] at c0 CE
        rw [hn'] at e0 CE
        rw [hp] at c1 CE
        rw [hp'] at e1 CE
        have hb2 := HW.out.trans ((below_two wo (.cells #[.slice T n q, .slice U p d] 49) (.cells #[.slice T' n' q', .slice U' p' d'] 49)).mono HW.out.size)
        have f0 := cell_keep (below_one wo (.cells #[.slice T n q, .slice U p d] 49)) e0
        have f1 := cell_keep (below_one wo (.cells #[.slice T n q, .slice U p d] 49)) e1
        have Hon := hid hon
        have Hne := hid hne
        have HBT := hid hbt
        clear hc hc' ht ht' hu hu' mt mt' mu mu' hon hne hbt ex ey hn hn' hp hp'
        go_wp2_with fail
        refine (CE _ hb2).out.mono ?_
        rintro e w1 ⟨rfl, b1⟩
        have HW2 := hid (hb2.trans (b1.mono hb2.size))
        clear CE b1 hb2 c0 c1 e0 e1 f0 f1
        cases bt
        · have hx : b = false := (Bool.not_eq_true _).mp (fun h => Hne.out (fun e => absurd (HBT.out.2 e) (by decide)) (HB.out.1 h))
          subst hx
          go_wp2
          go_ret
          exact ⟨rfl, HW2.out⟩
        · have HN := hid (Hon.out (HBT.out.1 rfl))
          clear HK Hon Hne HBT
          go_wp2
          go_roundw
          case rel => exact ⟨k + 1, by omega, by go_num, HN, HW2⟩
          case measure => simp [intOf]; omega
      · have hx : b = true := HB.out.2 (tk_end hlt HL.out HK.out)
        subst hx
        go_wp2
        go_ret
        exact ⟨rfl, HW.out⟩
  · have bl : ((l.length : Int) != (l'.length : Int)) = true := by rw [bne_iff_ne]; omega
    have hx : b = false := (Bool.not_eq_true _).mp (fun h => hl (by rw [HB.out.1 h]))
    subst hx
    clear hl
    go_enter Tryd.func42, Tryd.ntmps42
    go_wp2
    go_ret
    exact ⟨rfl, Below.refl _ _⟩
end Go.Proofs.YtgeapgbebbapmaaDoor
