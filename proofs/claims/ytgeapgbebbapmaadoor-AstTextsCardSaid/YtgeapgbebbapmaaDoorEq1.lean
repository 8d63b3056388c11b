/-
  WALKS: slices.Equal at strings, keys, terms and conditions.
-/
import Derived.Test.YtgeapgbebbapmaaDoorSm1
import Derived.Test.YtgeapgbebbapmaaDoorRfs
import Derived.Deep.QuietTactic
import Derived.BigQuiet
import Derived.Laws.StructEq
namespace Go.Proofs.YtgeapgbebbapmaaDoor
open Go.RowKit

theorem tk_on {α : Type} {a b : List α} {k : Nat} (h : k < a.length) (h' : k < b.length) (he : a.take k = b.take k) (hk : a[k] = b[k]) : a.take (k + 1) = b.take (k + 1) := by
  rw [List.take_succ_eq_append_getElem h, List.take_succ_eq_append_getElem h', he, hk]
theorem tk_end {α : Type} {a b : List α} {k : Nat} (h : ¬ k < a.length) (hl : a.length = b.length) (he : a.take k = b.take k) : a = b := by
  rw [List.take_of_length_le (by omega), List.take_of_length_le (by omega)] at he; exact he
theorem tk_ne {α : Type} {a b : List α} {k : Nat} (h : k < a.length) (h' : k < b.length) (hk : a[k] ≠ b[k]) : a ≠ b := fun e => hk (by subst e; rfl)

set_option maxRecDepth 100000 in
set_option maxHeartbeats 4000000 in
theorem eq_strings (A A' : Option Addr) (c c' : Nat) (l l' : List Str) (w : World) (h : NmsAt w A l) (h' : NmsAt w A' l') (hm : l.length ≤ 9223372036854775807) (hm' : l'.length ≤ 9223372036854775807) {b : Bool} (hb : b = true ↔ l = l') :
    Calls Tryd.prog 40 #[.slice A l.length c, .slice A' l'.length c'] w fun e w' => e = .returned (.bool b) ∧ Below w.heap.size w w' := by
  have HB := hid hb
  have H1 := hid h
  have H2 := hid h'
  clear hb h h'
  by_cases hl : l.length = l'.length
  · have bl : ((l.length : Int) != (l'.length : Int)) = false := by rw [bne_eq_false_iff_eq]; omega
    have HL := hid hl
    clear hl
    go_enter Tryd.func40, Tryd.ntmps40
    go_wp2
    go_loopw [13] (fun i wr => ∃ k : Nat, k ≤ l.length ∧ i = .int .i64 k ∧ Hid (l.take k = l'.take k) ∧ Hid (Below w.heap.size w wr)) (fun i _ => l.length - (intOf i).toNat)
    case atStart => exact ⟨0, by omega, rfl, hid (by simp), hid (Below.refl _ _)⟩
    case round =>
      obtain ⟨k, hk, rfl, HK, HW⟩ := hrel
      by_cases hlt : k < l.length
      · have hlt' : k < l'.length := by have := HL.out; omega
        obtain ⟨g, o, rfl, hc⟩ := H1.out (by omega)
        obtain ⟨g', o', rfl, hc'⟩ := H2.out (by omega)
        have c0 := hc k hlt
        have e0 := hc' k hlt'
        replace c0 := cell_keep HW.out c0
        replace e0 := cell_keep HW.out e0
        have hon := fun h => tk_on hlt hlt' HK.out h
        have hne := fun h => tk_ne hlt hlt' h
        obtain ⟨x, ex⟩ : ∃ x, l[k] = x := ⟨_, rfl⟩
        obtain ⟨y, ey⟩ : ∃ x, l'[k] = x := ⟨_, rfl⟩
        rw [ex] at c0
        rw [ey] at e0
        rw [ex, ey] at hon hne
        obtain ⟨Z, hZ, hZd⟩ : ∃ Y : ByteArray, (⟨x.toArray⟩ : ByteArray) = Y ∧ Y.data.toList = x := ⟨_, rfl, rfl⟩
        obtain ⟨Z', hZ', hZd'⟩ : ∃ Y : ByteArray, (⟨y.toArray⟩ : ByteArray) = Y ∧ Y.data.toList = y := ⟨_, rfl, rfl⟩
        rw [hZ] at c0
        rw [hZ'] at e0
        have hzz : (Z.toList == Z'.toList) = true ↔ x = y := by rw [eqS (Lib.toList_data Z) (Lib.toList_data Z'), hZd, hZd']; exact decide_eq_true_iff
        have htst : (Z.toList == Z'.toList) = true ↔ x = y := hzz
        by_cases hxy : x = y
        · have ht := htst.2 hxy
          have HN := hid (hon hxy)
          clear hon hne htst hzz hZ hZ' hZd hZd' hxy hc hc' ex ey
          clear HK
          go_wp2
          go_quiet (fail)
          have HW2 := hid (below_drewN HW.out nq)
          go_wp2
          go_roundw
          case rel => exact ⟨k + 1, by omega, by go_num, HN, HW2⟩
          case measure => simp [intOf]; omega
        · have ht := (Bool.not_eq_true _).mp (fun h => hxy (htst.1 h))
          have hx : b = false := (Bool.not_eq_true _).mp (fun h => hne hxy (HB.out.1 h))
          subst hx
          clear hon hne htst hzz hZ hZ' hZd hZd' hxy hc hc' ex ey
          go_wp2
          go_quiet (fail)
          go_wp2
          go_ret
          exact ⟨rfl, below_drewN HW.out nq⟩
      · have hx : b = true := HB.out.2 (tk_end hlt HL.out HK.out)
        subst hx
        go_wp2
        go_ret
        exact ⟨rfl, HW.out⟩
  · have bl : ((l.length : Int) != (l'.length : Int)) = true := by rw [bne_iff_ne]; omega
    have hx : b = false := (Bool.not_eq_true _).mp (fun h => hl (by rw [HB.out.1 h]))
    subst hx
    clear hl
    go_enter Tryd.func40, Tryd.ntmps40
    go_wp2
    go_ret
    exact ⟨rfl, Below.refl _ _⟩

set_option maxRecDepth 100000 in
set_option maxHeartbeats 4000000 in
theorem eq_keys (A A' : Option Addr) (c c' : Nat) (l l' : List Ky) (w : World) (h : KysAt w A l) (h' : KysAt w A' l') (hm : l.length ≤ 9223372036854775807) (hm' : l'.length ≤ 9223372036854775807) {b : Bool} (hb : b = true ↔ l = l') :
    Calls Tryd.prog 41 #[.slice A l.length c, .slice A' l'.length c'] w fun e w' => e = .returned (.bool b) ∧ Below w.heap.size w w' := by
  have HB := hid hb
  have H1 := hid h
  have H2 := hid h'
  clear hb h h'
  by_cases hl : l.length = l'.length
  · have bl : ((l.length : Int) != (l'.length : Int)) = false := by rw [bne_eq_false_iff_eq]; omega
    have HL := hid hl
    clear hl
    go_enter Tryd.func41, Tryd.ntmps41
    go_wp2
    go_loopw [13] (fun i wr => ∃ k : Nat, k ≤ l.length ∧ i = .int .i64 k ∧ Hid (l.take k = l'.take k) ∧ Hid (Below w.heap.size w wr)) (fun i _ => l.length - (intOf i).toNat)
    case atStart => exact ⟨0, by omega, rfl, hid (by simp), hid (Below.refl _ _)⟩
    case round =>
      obtain ⟨k, hk, rfl, HK, HW⟩ := hrel
      by_cases hlt : k < l.length
      · have hlt' : k < l'.length := by have := HL.out; omega
        obtain ⟨g, o, rfl, hc⟩ := H1.out (by omega)
        obtain ⟨g', o', rfl, hc'⟩ := H2.out (by omega)
        obtain ⟨c0, c1⟩ := hc k hlt
        obtain ⟨e0, e1⟩ := hc' k hlt'
        replace c0 := cell_keep HW.out c0
        replace c1 := cell_keep HW.out c1
        replace e0 := cell_keep HW.out e0
        replace e1 := cell_keep HW.out e1
        have hon := fun h => tk_on hlt hlt' HK.out h
        have hne := fun h => tk_ne hlt hlt' h
        obtain ⟨x, ex⟩ : ∃ x, l[k] = x := ⟨_, rfl⟩
        obtain ⟨y, ey⟩ : ∃ x, l'[k] = x := ⟨_, rfl⟩
        rw [ex] at c0 c1
        rw [ey] at e0 e1
        rw [ex, ey] at hon hne
        obtain ⟨xv, xd⟩ := x
        obtain ⟨yv, yd⟩ := y
        simp only at c0 c1 e0 e1
        obtain ⟨Z, hZ, hZd⟩ : ∃ Y : ByteArray, (⟨xv.toArray⟩ : ByteArray) = Y ∧ Y.data.toList = xv := ⟨_, rfl, rfl⟩
        obtain ⟨Z', hZ', hZd'⟩ : ∃ Y : ByteArray, (⟨yv.toArray⟩ : ByteArray) = Y ∧ Y.data.toList = yv := ⟨_, rfl, rfl⟩
        rw [hZ] at c0
        rw [hZ'] at e0
        have hzz : (Z.toList == Z'.toList) = true ↔ xv = yv := by rw [eqS (Lib.toList_data Z) (Lib.toList_data Z'), hZd, hZd']; exact decide_eq_true_iff
        have htst : (Z.toList == Z'.toList && xd == yd) = true ↔ (⟨xv, xd⟩ : Ky) = ⟨yv, yd⟩ := by
          rw [Bool.and_eq_true, hzz]
          rw [beq_iff_eq]
          constructor
          · rintro ⟨rfl, rfl⟩; rfl
          · intro h; cases h; simp
        by_cases hxy : (⟨xv, xd⟩ : Ky) = ⟨yv, yd⟩
        · have ht := htst.2 hxy
          have HN := hid (hon hxy)
          have EQ := eq_key Z xd Z' yd ht
          have GV := guardKey
          clear hon hne htst hzz hZ hZ' hZd hZd' hxy hc hc' ex ey ht
          clear HK
          go_wp2
          go_quiet (fail)
          have HW2 := hid (below_drewN HW.out nq)
          go_wp2
          go_roundw
          case rel => exact ⟨k + 1, by omega, by go_num, HN, HW2⟩
          case measure => simp [intOf]; omega
        · have ht := (Bool.not_eq_true _).mp (fun h => hxy (htst.1 h))
          have hx : b = false := (Bool.not_eq_true _).mp (fun h => hne hxy (HB.out.1 h))
          subst hx
          have EQ := eq_key Z xd Z' yd ht
          have GV := guardKey
          clear hon hne htst hzz hZ hZ' hZd hZd' hxy hc hc' ex ey ht
          go_wp2
          go_quiet (fail)
          go_wp2
          go_ret
          exact ⟨rfl, below_drewN HW.out nq⟩
      · have hx : b = true := HB.out.2 (tk_end hlt HL.out HK.out)
        subst hx
        go_wp2
        go_ret
        exact ⟨rfl, HW.out⟩
  · have bl : ((l.length : Int) != (l'.length : Int)) = true := by rw [bne_iff_ne]; omega
    have hx : b = false := (Bool.not_eq_true _).mp (fun h => hl (by rw [HB.out.1 h]))
    subst hx
    clear hl
    go_enter Tryd.func41, Tryd.ntmps41
    go_wp2
    go_ret
    exact ⟨rfl, Below.refl _ _⟩

set_option maxRecDepth 100000 in
set_option maxHeartbeats 4000000 in
theorem eq_terms (A A' : Option Addr) (c c' : Nat) (l l' : List Trm) (w : World) (h : TrmsAt w A l) (h' : TrmsAt w A' l') (hm : l.length ≤ 9223372036854775807) (hm' : l'.length ≤ 9223372036854775807) {b : Bool} (hb : b = true ↔ l = l') :
    Calls Tryd.prog 80 #[.slice A l.length c, .slice A' l'.length c'] w fun e w' => e = .returned (.bool b) ∧ Below w.heap.size w w' := by
  have HB := hid hb
  have H1 := hid h
  have H2 := hid h'
  clear hb h h'
  by_cases hl : l.length = l'.length
  · have bl : ((l.length : Int) != (l'.length : Int)) = false := by rw [bne_eq_false_iff_eq]; omega
    have HL := hid hl
    clear hl
    go_enter Tryd.func80, Tryd.ntmps80
    go_wp2
    go_loopw [13] (fun i wr => ∃ k : Nat, k ≤ l.length ∧ i = .int .i64 k ∧ Hid (l.take k = l'.take k) ∧ Hid (Below w.heap.size w wr)) (fun i _ => l.length - (intOf i).toNat)
    case atStart => exact ⟨0, by omega, rfl, hid (by simp), hid (Below.refl _ _)⟩
    case round =>
      obtain ⟨k, hk, rfl, HK, HW⟩ := hrel
      by_cases hlt : k < l.length
      · have hlt' : k < l'.length := by have := HL.out; omega
        obtain ⟨g, o, rfl, hc⟩ := H1.out (by omega)
        obtain ⟨g', o', rfl, hc'⟩ := H2.out (by omega)
        obtain ⟨c0, c1, c2, c3⟩ := hc k hlt
        obtain ⟨e0, e1, e2, e3⟩ := hc' k hlt'
        replace c0 := cell_keep HW.out c0
        replace c1 := cell_keep HW.out c1
        replace c2 := cell_keep HW.out c2
        replace c3 := cell_keep HW.out c3
        replace e0 := cell_keep HW.out e0
        replace e1 := cell_keep HW.out e1
        replace e2 := cell_keep HW.out e2
        replace e3 := cell_keep HW.out e3
        have hon := fun h => tk_on hlt hlt' HK.out h
        have hne := fun h => tk_ne hlt hlt' h
        obtain ⟨x, ex⟩ : ∃ x, l[k] = x := ⟨_, rfl⟩
        obtain ⟨y, ey⟩ : ∃ x, l'[k] = x := ⟨_, rfl⟩
        rw [ex] at c0 c1 c2 c3
        rw [ey] at e0 e1 e2 e3
        rw [ex, ey] at hon hne
        obtain ⟨xv, ⟨xk, xn, xs⟩⟩ := x
        obtain ⟨yv, ⟨yk, yn, ys⟩⟩ := y
        simp only at c0 c1 c2 c3 e0 e1 e2 e3
        obtain ⟨Z, hZ, hZd⟩ : ∃ Y : ByteArray, (⟨xv.toArray⟩ : ByteArray) = Y ∧ Y.data.toList = xv := ⟨_, rfl, rfl⟩
        obtain ⟨Z', hZ', hZd'⟩ : ∃ Y : ByteArray, (⟨yv.toArray⟩ : ByteArray) = Y ∧ Y.data.toList = yv := ⟨_, rfl, rfl⟩
        rw [hZ] at c0
        rw [hZ'] at e0
        have hzz : (Z.toList == Z'.toList) = true ↔ xv = yv := by rw [eqS (Lib.toList_data Z) (Lib.toList_data Z'), hZd, hZd']; exact decide_eq_true_iff
        have htst : (Z.toList == Z'.toList && veq ⟨xk, xn, xs⟩ ⟨yk, yn, ys⟩) = true ↔ (⟨xv, ⟨xk, xn, xs⟩⟩ : Trm) = ⟨yv, ⟨yk, yn, ys⟩⟩ := by
          rw [Bool.and_eq_true, hzz]
          rw [veq_iff]
          constructor
          · rintro ⟨rfl, h⟩; injection h with h1 h2 h3; subst h1 h2 h3; rfl
          · intro h; cases h; simp
        by_cases hxy : (⟨xv, ⟨xk, xn, xs⟩⟩ : Trm) = ⟨yv, ⟨yk, yn, ys⟩⟩
        · have ht := htst.2 hxy
          have HN := hid (hon hxy)
          have EQ := eq_trm Z xk xn xs Z' yk yn ys ht
          have GV := guardTrm
          clear hon hne htst hzz hZ hZ' hZd hZd' hxy hc hc' ex ey ht
          clear HK
          go_wp2
          go_quiet (fail)
          have HW2 := hid (below_drewN HW.out nq)
          go_wp2
          go_roundw
          case rel => exact ⟨k + 1, by omega, by go_num, HN, HW2⟩
          case measure => simp [intOf]; omega
        · have ht := (Bool.not_eq_true _).mp (fun h => hxy (htst.1 h))
          have hx : b = false := (Bool.not_eq_true _).mp (fun h => hne hxy (HB.out.1 h))
          subst hx
          have EQ := eq_trm Z xk xn xs Z' yk yn ys ht
          have GV := guardTrm
          clear hon hne htst hzz hZ hZ' hZd hZd' hxy hc hc' ex ey ht
          go_wp2
          go_quiet (fail)
          go_wp2
          go_ret
          exact ⟨rfl, below_drewN HW.out nq⟩
      · have hx : b = true := HB.out.2 (tk_end hlt HL.out HK.out)
        subst hx
        go_wp2
        go_ret
        exact ⟨rfl, HW.out⟩
  · have bl : ((l.length : Int) != (l'.length : Int)) = true := by rw [bne_iff_ne]; omega
    have hx : b = false := (Bool.not_eq_true _).mp (fun h => hl (by rw [HB.out.1 h]))
    subst hx
    clear hl
    go_enter Tryd.func80, Tryd.ntmps80
    go_wp2
    go_ret
    exact ⟨rfl, Below.refl _ _⟩

set_option maxRecDepth 100000 in
set_option maxHeartbeats 4000000 in
theorem eq_conds (A A' : Option Addr) (c c' : Nat) (l l' : List Cnd) (w : World) (h : CndsAt w A l) (h' : CndsAt w A' l') (hm : l.length ≤ 9223372036854775807) (hm' : l'.length ≤ 9223372036854775807) {b : Bool} (hb : b = true ↔ l = l') :
    Calls Tryd.prog 69 #[.slice A l.length c, .slice A' l'.length c'] w fun e w' => e = .returned (.bool b) ∧ Below w.heap.size w w' := by
  have HB := hid hb
  have H1 := hid h
  have H2 := hid h'
  clear hb h h'
  by_cases hl : l.length = l'.length
  · have bl : ((l.length : Int) != (l'.length : Int)) = false := by rw [bne_eq_false_iff_eq]; omega
    have HL := hid hl
    clear hl
    go_enter Tryd.func69, Tryd.ntmps69
    go_wp2
    go_loopw [13] (fun i wr => ∃ k : Nat, k ≤ l.length ∧ i = .int .i64 k ∧ Hid (l.take k = l'.take k) ∧ Hid (Below w.heap.size w wr)) (fun i _ => l.length - (intOf i).toNat)
    case atStart => exact ⟨0, by omega, rfl, hid (by simp), hid (Below.refl _ _)⟩
    case round =>
      obtain ⟨k, hk, rfl, HK, HW⟩ := hrel
      by_cases hlt : k < l.length
      · have hlt' : k < l'.length := by have := HL.out; omega
        obtain ⟨g, o, rfl, hc⟩ := H1.out (by omega)
        obtain ⟨g', o', rfl, hc'⟩ := H2.out (by omega)
        obtain ⟨c0, c1, c2, c3, c4⟩ := hc k hlt
        obtain ⟨e0, e1, e2, e3, e4⟩ := hc' k hlt'
        replace c0 := cell_keep HW.out c0
        replace c1 := cell_keep HW.out c1
        replace c2 := cell_keep HW.out c2
        replace c3 := cell_keep HW.out c3
        replace c4 := cell_keep HW.out c4
        replace e0 := cell_keep HW.out e0
        replace e1 := cell_keep HW.out e1
        replace e2 := cell_keep HW.out e2
        replace e3 := cell_keep HW.out e3
        replace e4 := cell_keep HW.out e4
        have hon := fun h => tk_on hlt hlt' HK.out h
        have hne := fun h => tk_ne hlt hlt' h
        obtain ⟨x, ex⟩ : ∃ x, l[k] = x := ⟨_, rfl⟩
        obtain ⟨y, ey⟩ : ∃ x, l'[k] = x := ⟨_, rfl⟩
        rw [ex] at c0 c1 c2 c3 c4
        rw [ey] at e0 e1 e2 e3 e4
        rw [ex, ey] at hon hne
        obtain ⟨xv, xo, ⟨xk, xn, xs⟩⟩ := x
        obtain ⟨yv, yo, ⟨yk, yn, ys⟩⟩ := y
        simp only at c0 c1 c2 c3 c4 e0 e1 e2 e3 e4
        obtain ⟨Z, hZ, hZd⟩ : ∃ Y : ByteArray, (⟨xv.toArray⟩ : ByteArray) = Y ∧ Y.data.toList = xv := ⟨_, rfl, rfl⟩
        obtain ⟨Z', hZ', hZd'⟩ : ∃ Y : ByteArray, (⟨yv.toArray⟩ : ByteArray) = Y ∧ Y.data.toList = yv := ⟨_, rfl, rfl⟩
        rw [hZ] at c0
        rw [hZ'] at e0
        have hzz : (Z.toList == Z'.toList) = true ↔ xv = yv := by rw [eqS (Lib.toList_data Z) (Lib.toList_data Z'), hZd, hZd']; exact decide_eq_true_iff
        have htst : (Z.toList == Z'.toList && (xo == yo && veq ⟨xk, xn, xs⟩ ⟨yk, yn, ys⟩)) = true ↔ (⟨xv, xo, ⟨xk, xn, xs⟩⟩ : Cnd) = ⟨yv, yo, ⟨yk, yn, ys⟩⟩ := by
          rw [Bool.and_eq_true, hzz]
          rw [Bool.and_eq_true, beq_iff_eq, veq_iff]
          constructor
          · rintro ⟨rfl, rfl, h⟩; injection h with h1 h2 h3; subst h1 h2 h3; rfl
          · intro h; cases h; simp
        by_cases hxy : (⟨xv, xo, ⟨xk, xn, xs⟩⟩ : Cnd) = ⟨yv, yo, ⟨yk, yn, ys⟩⟩
        · have ht := htst.2 hxy
          have HN := hid (hon hxy)
          have EQ := eq_cnd Z xo xk xn xs Z' yo yk yn ys ht
          have GV := guardCnd
          clear hon hne htst hzz hZ hZ' hZd hZd' hxy hc hc' ex ey ht
          clear HK
          go_wp2
          go_quiet (fail)
          have HW2 := hid (below_drewN HW.out nq)
          go_wp2
          go_roundw
          case rel => exact ⟨k + 1, by omega, by go_num, HN, HW2⟩
          case measure => simp [intOf]; omega
        · have ht := (Bool.not_eq_true _).mp (fun h => hxy (htst.1 h))
          have hx : b = false := (Bool.not_eq_true _).mp (fun h => hne hxy (HB.out.1 h))
          subst hx
          have EQ := eq_cnd Z xo xk xn xs Z' yo yk yn ys ht
          have GV := guardCnd
          clear hon hne htst hzz hZ hZ' hZd hZd' hxy hc hc' ex ey ht
          go_wp2
          go_quiet (fail)
          go_wp2
          go_ret
          exact ⟨rfl, below_drewN HW.out nq⟩
      · have hx : b = true := HB.out.2 (tk_end hlt HL.out HK.out)
        subst hx
        go_wp2
        go_ret
        exact ⟨rfl, HW.out⟩
  · have bl : ((l.length : Int) != (l'.length : Int)) = true := by rw [bne_iff_ne]; omega
    have hx : b = false := (Bool.not_eq_true _).mp (fun h => hl (by rw [HB.out.1 h]))
    subst hx
    clear hl
    go_enter Tryd.func69, Tryd.ntmps69
    go_wp2
    go_ret
    exact ⟨rfl, Below.refl _ _⟩

end Go.Proofs.YtgeapgbebbapmaaDoor
