/-
  WALK: slices.EqualFunc at atoms with ast.equalAtom.
-/
import Derived.Test.YtgeapgbebbapmaaDoorEq2
namespace Go.Proofs.YtgeapgbebbapmaaDoor
open Go.RowKit

set_option maxRecDepth 100000 in
set_option maxHeartbeats 4000000 in
theorem eq_atoms (A A' : Option Addr) (c c' : Nat) (l l' : List Atm) (w : World) (h : AtmsAt w A l) (h' : AtmsAt w A' l') (hm : l.length ≤ 9223372036854775807) (hm' : l'.length ≤ 9223372036854775807) {b : Bool} (hb : b = true ↔ l = l') :
    Calls Tryd.prog 67 #[.slice A l.length c, .slice A' l'.length c', .func (.func 68) #[] #[]] w fun e w' => e = .returned (.bool b) ∧ Below w.heap.size w w' := by
  have HB := hid hb
  have H1 := hid h
  have H2 := hid h'
  clear hb h h'
  by_cases hl : l.length = l'.length
  · have bl : ((l.length : Int) != (l'.length : Int)) = false := by rw [bne_eq_false_iff_eq]; omega
    have HL := hid hl
    clear hl
    go_enter Tryd.func67, Tryd.ntmps67
    go_wp2
    go_loopw [17] (fun i wr => ∃ k : Nat, k ≤ l.length ∧ i = .int .i64 k ∧ Hid (l.take k = l'.take k) ∧ Hid (Below w.heap.size w wr)) (fun i _ => l.length - (intOf i).toNat)
    case atStart => exact ⟨0, by omega, rfl, hid (by simp), hid (Below.refl _ _)⟩
    case round =>
      obtain ⟨k, hk, rfl, HK, HW⟩ := hrel
      rename World => wo
      by_cases hlt : k < l.length
      · have hlt' : k < l'.length := by have := HL.out; omega
        obtain ⟨g, o, rfl, hc⟩ := H1.out (by omega)
        obtain ⟨g', o', rfl, hc'⟩ := H2.out (by omega)
        obtain ⟨T, q, c0, c1, c2, ht, _, mt⟩ := hc k hlt
        obtain ⟨T', q', e0, e1, e2, ht', _, mt'⟩ := hc' k hlt'
        have hon := fun h => tk_on hlt hlt' HK.out h
        have hne := fun h => tk_ne hlt hlt' h
        replace c0 := cell_keep HW.out c0
        replace c1 := cell_keep HW.out c1
        replace c2 := cell_keep HW.out c2
        replace e0 := cell_keep HW.out e0
        replace e1 := cell_keep HW.out e1
        replace e2 := cell_keep HW.out e2
        obtain ⟨x, ex⟩ : ∃ x, l[k] = x := ⟨_, rfl⟩
        obtain ⟨y, ey⟩ : ∃ x, l'[k] = x := ⟨_, rfl⟩
        rw [ex] at c0 c1 c2 ht mt
        rw [ey] at e0 e1 e2 ht' mt'
        rw [ex, ey] at hon hne
        obtain ⟨bt, hbt⟩ := bool_of (x = y)
        have CE := fun W (k : Below w.heap.size w W) => hid (eq_atom x y T T' q q' W (ht.below k) (ht'.below k) mt mt' hbt)
        obtain ⟨Z, hZ⟩ : ∃ Y : ByteArray, (⟨x.rel.toArray⟩ : ByteArray) = Y := ⟨_, rfl⟩
        obtain ⟨Z', hZ'⟩ : ∃ Y : ByteArray, (⟨y.rel.toArray⟩ : ByteArray) = Y := ⟨_, rfl⟩
        obtain ⟨n, hn⟩ : ∃ n, x.ts.length = n := ⟨_, rfl⟩
        obtain ⟨n', hn'⟩ : ∃ n, y.ts.length = n := ⟨_, rfl⟩
        obtain ⟨ng, hng⟩ : ∃ n, x.neg = n := ⟨_, rfl⟩
        obtain ⟨ng', hng'⟩ : ∃ n, y.neg = n := ⟨_, rfl⟩
        rw [hZ] at c1 CE
        rw [hZ'] at e1 CE
        rw [hn] at c2 CE
        rw [hn'] at e2 CE
        rw [hng] at c0 CE
        rw [hng'] at e0 CE
        have hb2 := HW.out.trans ((below_two wo (.cells #[.bool ng, .string Z, .slice T n q] 60) (.cells #[.bool ng', .string Z', .slice T' n' q'] 60)).mono HW.out.size)
        have f0 := cell_keep (below_one wo (.cells #[.bool ng, .string Z, .slice T n q] 60)) e0
        have f1 := cell_keep (below_one wo (.cells #[.bool ng, .string Z, .slice T n q] 60)) e1
        have f2 := cell_keep (below_one wo (.cells #[.bool ng, .string Z, .slice T n q] 60)) e2
        have Hon := hid hon
        have Hne := hid hne
        have HBT := hid hbt
        clear hc hc' ht ht' mt mt' hon hne hbt ex ey hZ hZ' hn hn' hng hng'
        go_wp2_with fail
        refine (CE _ hb2).out.mono ?_
        rintro e w1 ⟨rfl, b1⟩
        have HW2 := hid (hb2.trans (b1.mono hb2.size))
        clear CE b1 hb2 c0 c1 c2 e0 e1 e2 f0 f1 f2
        cases bt
        · have hx : b = false := (Bool.not_eq_true _).mp (fun h => Hne.out (fun e => absurd (HBT.out.2 e) (by decide)) (HB.out.1 h))
          subst hx
          go_wp2
          go_ret
          exact ⟨rfl, HW2.out⟩
        · have HN := hid (Hon.out (HBT.out.1 rfl))
          clear HK Hon Hne HBT
          go_wp2
          go_roundw
          case rel => exact ⟨k + 1, by omega, by go_num, HN, HW2⟩
          case measure => simp [intOf]; omega
      · have hx : b = true := HB.out.2 (tk_end hlt HL.out HK.out)
        subst hx
        go_wp2
        go_ret
        exact ⟨rfl, HW.out⟩
  · have bl : ((l.length : Int) != (l'.length : Int)) = true := by rw [bne_iff_ne]; omega
    have hx : b = false := (Bool.not_eq_true _).mp (fun h => hl (by rw [HB.out.1 h]))
    subst hx
    clear hl
    go_enter Tryd.func67, Tryd.ntmps67
    go_wp2
    go_ret
    exact ⟨rfl, Below.refl _ _⟩
end Go.Proofs.YtgeapgbebbapmaaDoor
