/-
  PARTS of a claim, merged by segs.py: Eq20.
-/
import Derived.Test.YtnbacdmlaedppaaGreatDoorQ43
import Derived.Test.YtnbacdmlaedppaaGreatDoorQ31
import Derived.Test.YtnbacdmlaedppaaGreatDoorQ14
import Derived.StillTailTactics
import Derived.Laws.AppendOwnNone
import Derived.Deep.QuietTactic
import Derived.BigQuiet
import Derived.Laws.StructEq
namespace Go.Proofs.YtnbacdmlaedppaaGreatDoor

/-! ### Eq20 -/
section
open Go.RowKit

theorem two_blocks19 {w w' : World} {a b : Obj} (h : Below (w.heap.size + 2) ((w.alloc a).alloc b) w') :
    w'.heap[w.heap.size]? = some a ∧ w'.heap[w.heap.size + 1]? = some b ∧ w.heap.size + 2 ≤ w'.heap.size ∧ Below w.heap.size w w' := by
  refine ⟨?_, ?_, ?_, (below_two w a b).trans (h.mono (by omega))⟩
  · rw [h.block _ (by omega), heap_alloc_old _ _ (by simp)]; exact heap_alloc_new w a
  · rw [h.block _ (by omega)]
    have := heap_alloc_new (w.alloc a) b
    simpa using this
  · have := h.size
    simp at this
    omega
/-! ### Eq1 -/

theorem tk_on {α : Type} {a b : List α} {k : Nat} (h : k < a.length) (h' : k < b.length) (he : a.take k = b.take k) (hk : a[k] = b[k]) : a.take (k + 1) = b.take (k + 1) := by
  rw [List.take_succ_eq_append_getElem h, List.take_succ_eq_append_getElem h', he, hk]
theorem tk_end {α : Type} {a b : List α} {k : Nat} (h : ¬ k < a.length) (hl : a.length = b.length) (he : a.take k = b.take k) : a = b := by
  rw [List.take_of_length_le (by omega), List.take_of_length_le (by omega)] at he; exact he
theorem tk_ne {α : Type} {a b : List α} {k : Nat} (h : k < a.length) (h' : k < b.length) (hk : a[k] ≠ b[k]) : a ≠ b := fun e => hk (by subst e; rfl)

set_option maxRecDepth 100000 in
set_option maxHeartbeats 4000000 in
theorem eq_strings (A A' : Option Addr) (c c' : Nat) (l l' : List Str) (w : World) (h : NmsAt w A l) (h' : NmsAt w A' l') (hm : l.length ≤ 9223372036854775807) (hm' : l'.length ≤ 9223372036854775807) {b : Bool} (hb : b = true ↔ l = l') :
    Calls Tryz.prog 27 #[.slice A l.length c, .slice A' l'.length c'] w fun e w' => e = .returned (.bool b) ∧ Below w.heap.size w w' := by
  have HB := hid hb
  have H1 := hid h
  have H2 := hid h'
  clear hb h h'
  by_cases hl : l.length = l'.length
  · have bl : ((l.length : Int) != (l'.length : Int)) = false := by rw [bne_eq_false_iff_eq]; omega
    have HL := hid hl
    clear hl
    go_enter Tryz.func27, Tryz.ntmps27
    go_wp2
    go_loopw [13] (fun i wr => ∃ k : Nat, k ≤ l.length ∧ i = .int .i64 k ∧ Hid (l.take k = l'.take k) ∧ Hid (Below w.heap.size w wr)) (fun i _ => l.length - (intOf i).toNat)
    case atStart => exact ⟨0, by omega, rfl, hid (by simp), hid (Below.refl _ _)⟩
    case round =>
      obtain ⟨k, hk, rfl, HK, HW⟩ := hrel
      by_cases hlt : k < l.length
      · have hlt' : k < l'.length := by have := HL.out; omega
        obtain ⟨g, o, rfl, hc⟩ := H1.out (by omega)
        obtain ⟨g', o', rfl, hc'⟩ := H2.out (by omega)
        have c0 := hc k hlt
        have e0 := hc' k hlt'
        replace c0 := cell_keep HW.out c0
        replace e0 := cell_keep HW.out e0
        have hon := fun h => tk_on hlt hlt' HK.out h
        have hne := fun h => tk_ne hlt hlt' h
        obtain ⟨x, ex⟩ : ∃ x, l[k] = x := ⟨_, rfl⟩
        obtain ⟨y, ey⟩ : ∃ x, l'[k] = x := ⟨_, rfl⟩
        rw [ex] at c0
        rw [ey] at e0
        rw [ex, ey] at hon hne
        obtain ⟨Z, hZ, hZd⟩ : ∃ Y : ByteArray, (⟨x.toArray⟩ : ByteArray) = Y ∧ Y.data.toList = x := ⟨_, rfl, rfl⟩
        obtain ⟨Z', hZ', hZd'⟩ : ∃ Y : ByteArray, (⟨y.toArray⟩ : ByteArray) = Y ∧ Y.data.toList = y := ⟨_, rfl, rfl⟩
        rw [hZ] at c0
        rw [hZ'] at e0
        have hzz : (Z.toList == Z'.toList) = true ↔ x = y := by rw [eqS (Lib.toList_data Z) (Lib.toList_data Z'), hZd, hZd']; exact decide_eq_true_iff
        have htst : (Z.toList == Z'.toList) = true ↔ x = y := hzz
        by_cases hxy : x = y
        · have ht := htst.2 hxy
          have HN := hid (hon hxy)
          clear hon hne htst hzz hZ hZ' hZd hZd' hxy hc hc' ex ey
          clear HK
          go_wp2
          go_quiet (fail)
          have HW2 := hid (below_drewN HW.out nq)
          go_wp2
          go_roundw
          case rel => exact ⟨k + 1, by omega, by go_num, HN, HW2⟩
          case measure => simp [intOf]; omega
        · have ht := (Bool.not_eq_true _).mp (fun h => hxy (htst.1 h))
          have hx : b = false := (Bool.not_eq_true _).mp (fun h => hne hxy (HB.out.1 h))
          subst hx
          clear hon hne htst hzz hZ hZ' hZd hZd' hxy hc hc' ex ey
          go_wp2
          go_quiet (fail)
          go_wp2
          go_ret
          exact ⟨rfl, below_drewN HW.out nq⟩
      · have hx : b = true := HB.out.2 (tk_end hlt HL.out HK.out)
        subst hx
        go_wp2
        go_ret
        exact ⟨rfl, HW.out⟩
  · have bl : ((l.length : Int) != (l'.length : Int)) = true := by rw [bne_iff_ne]; omega
    have hx : b = false := (Bool.not_eq_true _).mp (fun h => hl (by rw [HB.out.1 h]))
    subst hx
    clear hl
    go_enter Tryz.func27, Tryz.ntmps27
    go_wp2
    go_ret
    exact ⟨rfl, Below.refl _ _⟩

set_option maxRecDepth 100000 in
set_option maxHeartbeats 4000000 in
theorem eq_keys (A A' : Option Addr) (c c' : Nat) (l l' : List Ky) (w : World) (h : KysAt w A l) (h' : KysAt w A' l') (hm : l.length ≤ 9223372036854775807) (hm' : l'.length ≤ 9223372036854775807) {b : Bool} (hb : b = true ↔ l = l') :
    Calls Tryz.prog 28 #[.slice A l.length c, .slice A' l'.length c'] w fun e w' => e = .returned (.bool b) ∧ Below w.heap.size w w' := by
  have HB := hid hb
  have H1 := hid h
  have H2 := hid h'
  clear hb h h'
  by_cases hl : l.length = l'.length
  · have bl : ((l.length : Int) != (l'.length : Int)) = false := by rw [bne_eq_false_iff_eq]; omega
    have HL := hid hl
    clear hl
    go_enter Tryz.func28, Tryz.ntmps28
    go_wp2
    go_loopw [13] (fun i wr => ∃ k : Nat, k ≤ l.length ∧ i = .int .i64 k ∧ Hid (l.take k = l'.take k) ∧ Hid (Below w.heap.size w wr)) (fun i _ => l.length - (intOf i).toNat)
    case atStart => exact ⟨0, by omega, rfl, hid (by simp), hid (Below.refl _ _)⟩
    case round =>
      obtain ⟨k, hk, rfl, HK, HW⟩ := hrel
      by_cases hlt : k < l.length
      · have hlt' : k < l'.length := by have := HL.out; omega
        obtain ⟨g, o, rfl, hc⟩ := H1.out (by omega)
        obtain ⟨g', o', rfl, hc'⟩ := H2.out (by omega)
        obtain ⟨c0, c1⟩ := hc k hlt
        obtain ⟨e0, e1⟩ := hc' k hlt'
        replace c0 := cell_keep HW.out c0
        replace c1 := cell_keep HW.out c1
        replace e0 := cell_keep HW.out e0
        replace e1 := cell_keep HW.out e1
        have hon := fun h => tk_on hlt hlt' HK.out h
        have hne := fun h => tk_ne hlt hlt' h
        obtain ⟨x, ex⟩ : ∃ x, l[k] = x := ⟨_, rfl⟩
        obtain ⟨y, ey⟩ : ∃ x, l'[k] = x := ⟨_, rfl⟩
        rw [ex] at c0 c1
        rw [ey] at e0 e1
        rw [ex, ey] at hon hne
        obtain ⟨xv, xd⟩ := x
        obtain ⟨yv, yd⟩ := y
        simp only at c0 c1 e0 e1
        obtain ⟨Z, hZ, hZd⟩ : ∃ Y : ByteArray, (⟨xv.toArray⟩ : ByteArray) = Y ∧ Y.data.toList = xv := ⟨_, rfl, rfl⟩
        obtain ⟨Z', hZ', hZd'⟩ : ∃ Y : ByteArray, (⟨yv.toArray⟩ : ByteArray) = Y ∧ Y.data.toList = yv := ⟨_, rfl, rfl⟩
        rw [hZ] at c0
        rw [hZ'] at e0
        have hzz : (Z.toList == Z'.toList) = true ↔ xv = yv := by rw [eqS (Lib.toList_data Z) (Lib.toList_data Z'), hZd, hZd']; exact decide_eq_true_iff
        have htst : (Z.toList == Z'.toList && xd == yd) = true ↔ (⟨xv, xd⟩ : Ky) = ⟨yv, yd⟩ := by
          rw [Bool.and_eq_true, hzz]
          rw [beq_iff_eq]
          constructor
          · rintro ⟨rfl, rfl⟩; rfl
          · intro h; cases h; simp
        by_cases hxy : (⟨xv, xd⟩ : Ky) = ⟨yv, yd⟩
        · have ht := htst.2 hxy
          have HN := hid (hon hxy)
          have EQ := eq_key Z xd Z' yd ht
          have GV := guardKey
          clear hon hne htst hzz hZ hZ' hZd hZd' hxy hc hc' ex ey ht
          clear HK
          go_wp2
          go_quiet (fail)
          have HW2 := hid (below_drewN HW.out nq)
          go_wp2
          go_roundw
          case rel => exact ⟨k + 1, by omega, by go_num, HN, HW2⟩
          case measure => simp [intOf]; omega
        · have ht := (Bool.not_eq_true _).mp (fun h => hxy (htst.1 h))
          have hx : b = false := (Bool.not_eq_true _).mp (fun h => hne hxy (HB.out.1 h))
          subst hx
          have EQ := eq_key Z xd Z' yd ht
          have GV := guardKey
          clear hon hne htst hzz hZ hZ' hZd hZd' hxy hc hc' ex ey ht
          go_wp2
          go_quiet (fail)
          go_wp2
          go_ret
          exact ⟨rfl, below_drewN HW.out nq⟩
      · have hx : b = true := HB.out.2 (tk_end hlt HL.out HK.out)
        subst hx
        go_wp2
        go_ret
        exact ⟨rfl, HW.out⟩
  · have bl : ((l.length : Int) != (l'.length : Int)) = true := by rw [bne_iff_ne]; omega
    have hx : b = false := (Bool.not_eq_true _).mp (fun h => hl (by rw [HB.out.1 h]))
    subst hx
    clear hl
    go_enter Tryz.func28, Tryz.ntmps28
    go_wp2
    go_ret
    exact ⟨rfl, Below.refl _ _⟩

set_option maxRecDepth 100000 in
set_option maxHeartbeats 4000000 in
theorem eq_terms (A A' : Option Addr) (c c' : Nat) (l l' : List Trm) (w : World) (h : TrmsAt w A l) (h' : TrmsAt w A' l') (hm : l.length ≤ 9223372036854775807) (hm' : l'.length ≤ 9223372036854775807) {b : Bool} (hb : b = true ↔ l = l') :
    Calls Tryz.prog 85 #[.slice A l.length c, .slice A' l'.length c'] w fun e w' => e = .returned (.bool b) ∧ Below w.heap.size w w' := by
  have HB := hid hb
  have H1 := hid h
  have H2 := hid h'
  clear hb h h'
  by_cases hl : l.length = l'.length
  · have bl : ((l.length : Int) != (l'.length : Int)) = false := by rw [bne_eq_false_iff_eq]; omega
    have HL := hid hl
    clear hl
    go_enter Tryz.func85, Tryz.ntmps85
    go_wp2
    go_loopw [13] (fun i wr => ∃ k : Nat, k ≤ l.length ∧ i = .int .i64 k ∧ Hid (l.take k = l'.take k) ∧ Hid (Below w.heap.size w wr)) (fun i _ => l.length - (intOf i).toNat)
    case atStart => exact ⟨0, by omega, rfl, hid (by simp), hid (Below.refl _ _)⟩
    case round =>
      obtain ⟨k, hk, rfl, HK, HW⟩ := hrel
      by_cases hlt : k < l.length
      · have hlt' : k < l'.length := by have := HL.out; omega
        obtain ⟨g, o, rfl, hc⟩ := H1.out (by omega)
        obtain ⟨g', o', rfl, hc'⟩ := H2.out (by omega)
        obtain ⟨c0, c1, c2, c3⟩ := hc k hlt
        obtain ⟨e0, e1, e2, e3⟩ := hc' k hlt'
        replace c0 := cell_keep HW.out c0
        replace c1 := cell_keep HW.out c1
        replace c2 := cell_keep HW.out c2
        replace c3 := cell_keep HW.out c3
        replace e0 := cell_keep HW.out e0
        replace e1 := cell_keep HW.out e1
        replace e2 := cell_keep HW.out e2
        replace e3 := cell_keep HW.out e3
        have hon := fun h => tk_on hlt hlt' HK.out h
        have hne := fun h => tk_ne hlt hlt' h
        obtain ⟨x, ex⟩ : ∃ x, l[k] = x := ⟨_, rfl⟩
        obtain ⟨y, ey⟩ : ∃ x, l'[k] = x := ⟨_, rfl⟩
        rw [ex] at c0 c1 c2 c3
        rw [ey] at e0 e1 e2 e3
        rw [ex, ey] at hon hne
        obtain ⟨xv, ⟨xk, xn, xs⟩⟩ := x
        obtain ⟨yv, ⟨yk, yn, ys⟩⟩ := y
        simp only at c0 c1 c2 c3 e0 e1 e2 e3
        obtain ⟨Z, hZ, hZd⟩ : ∃ Y : ByteArray, (⟨xv.toArray⟩ : ByteArray) = Y ∧ Y.data.toList = xv := ⟨_, rfl, rfl⟩
        obtain ⟨Z', hZ', hZd'⟩ : ∃ Y : ByteArray, (⟨yv.toArray⟩ : ByteArray) = Y ∧ Y.data.toList = yv := ⟨_, rfl, rfl⟩
        rw [hZ] at c0
        rw [hZ'] at e0
        have hzz : (Z.toList == Z'.toList) = true ↔ xv = yv := by rw [eqS (Lib.toList_data Z) (Lib.toList_data Z'), hZd, hZd']; exact decide_eq_true_iff
        have htst : (Z.toList == Z'.toList && veq ⟨xk, xn, xs⟩ ⟨yk, yn, ys⟩) = true ↔ (⟨xv, ⟨xk, xn, xs⟩⟩ : Trm) = ⟨yv, ⟨yk, yn, ys⟩⟩ := by
          rw [Bool.and_eq_true, hzz]
          rw [veq_iff]
          constructor
          · rintro ⟨rfl, h⟩; injection h with h1 h2 h3; subst h1 h2 h3; rfl
          · intro h; cases h; simp
        by_cases hxy : (⟨xv, ⟨xk, xn, xs⟩⟩ : Trm) = ⟨yv, ⟨yk, yn, ys⟩⟩
        · have ht := htst.2 hxy
          have HN := hid (hon hxy)
          have EQ := eq_trm Z xk xn xs Z' yk yn ys ht
          have GV := guardTrm
          clear hon hne htst hzz hZ hZ' hZd hZd' hxy hc hc' ex ey ht
          clear HK
          go_wp2
          go_quiet (fail)
          have HW2 := hid (below_drewN HW.out nq)
          go_wp2
          go_roundw
          case rel => exact ⟨k + 1, by omega, by go_num, HN, HW2⟩
          case measure => simp [intOf]; omega
        · have ht := (Bool.not_eq_true _).mp (fun h => hxy (htst.1 h))
          have hx : b = false := (Bool.not_eq_true _).mp (fun h => hne hxy (HB.out.1 h))
          subst hx
          have EQ := eq_trm Z xk xn xs Z' yk yn ys ht
          have GV := guardTrm
          clear hon hne htst hzz hZ hZ' hZd hZd' hxy hc hc' ex ey ht
          go_wp2
          go_quiet (fail)
          go_wp2
          go_ret
          exact ⟨rfl, below_drewN HW.out nq⟩
      · have hx : b = true := HB.out.2 (tk_end hlt HL.out HK.out)
        subst hx
        go_wp2
        go_ret
        exact ⟨rfl, HW.out⟩
  · have bl : ((l.length : Int) != (l'.length : Int)) = true := by rw [bne_iff_ne]; omega
    have hx : b = false := (Bool.not_eq_true _).mp (fun h => hl (by rw [HB.out.1 h]))
    subst hx
    clear hl
    go_enter Tryz.func85, Tryz.ntmps85
    go_wp2
    go_ret
    exact ⟨rfl, Below.refl _ _⟩

set_option maxRecDepth 100000 in
set_option maxHeartbeats 4000000 in
theorem eq_conds (A A' : Option Addr) (c c' : Nat) (l l' : List Cnd) (w : World) (h : CndsAt w A l) (h' : CndsAt w A' l') (hm : l.length ≤ 9223372036854775807) (hm' : l'.length ≤ 9223372036854775807) {b : Bool} (hb : b = true ↔ l = l') :
    Calls Tryz.prog 56 #[.slice A l.length c, .slice A' l'.length c'] w fun e w' => e = .returned (.bool b) ∧ Below w.heap.size w w' := by
  have HB := hid hb
  have H1 := hid h
  have H2 := hid h'
  clear hb h h'
  by_cases hl : l.length = l'.length
  · have bl : ((l.length : Int) != (l'.length : Int)) = false := by rw [bne_eq_false_iff_eq]; omega
    have HL := hid hl
    clear hl
    go_enter Tryz.func56, Tryz.ntmps56
    go_wp2
    go_loopw [13] (fun i wr => ∃ k : Nat, k ≤ l.length ∧ i = .int .i64 k ∧ Hid (l.take k = l'.take k) ∧ Hid (Below w.heap.size w wr)) (fun i _ => l.length - (intOf i).toNat)
    case atStart => exact ⟨0, by omega, rfl, hid (by simp), hid (Below.refl _ _)⟩
    case round =>
      obtain ⟨k, hk, rfl, HK, HW⟩ := hrel
      by_cases hlt : k < l.length
      · have hlt' : k < l'.length := by have := HL.out; omega
        obtain ⟨g, o, rfl, hc⟩ := H1.out (by omega)
        obtain ⟨g', o', rfl, hc'⟩ := H2.out (by omega)
        obtain ⟨c0, c1, c2, c3, c4⟩ := hc k hlt
        obtain ⟨e0, e1, e2, e3, e4⟩ := hc' k hlt'
        replace c0 := cell_keep HW.out c0
        replace c1 := cell_keep HW.out c1
        replace c2 := cell_keep HW.out c2
        replace c3 := cell_keep HW.out c3
        replace c4 := cell_keep HW.out c4
        replace e0 := cell_keep HW.out e0
        replace e1 := cell_keep HW.out e1
        replace e2 := cell_keep HW.out e2
        replace e3 := cell_keep HW.out e3
        replace e4 := cell_keep HW.out e4
        have hon := fun h => tk_on hlt hlt' HK.out h
        have hne := fun h => tk_ne hlt hlt' h
        obtain ⟨x, ex⟩ : ∃ x, l[k] = x := ⟨_, rfl⟩
        obtain ⟨y, ey⟩ : ∃ x, l'[k] = x := ⟨_, rfl⟩
        rw [ex] at c0 c1 c2 c3 c4
        rw [ey] at e0 e1 e2 e3 e4
        rw [ex, ey] at hon hne
        obtain ⟨xv, xo, ⟨xk, xn, xs⟩⟩ := x
        obtain ⟨yv, yo, ⟨yk, yn, ys⟩⟩ := y
        simp only at c0 c1 c2 c3 c4 e0 e1 e2 e3 e4
        obtain ⟨Z, hZ, hZd⟩ : ∃ Y : ByteArray, (⟨xv.toArray⟩ : ByteArray) = Y ∧ Y.data.toList = xv := ⟨_, rfl, rfl⟩
        obtain ⟨Z', hZ', hZd'⟩ : ∃ Y : ByteArray, (⟨yv.toArray⟩ : ByteArray) = Y ∧ Y.data.toList = yv := ⟨_, rfl, rfl⟩
        rw [hZ] at c0
        rw [hZ'] at e0
        have hzz : (Z.toList == Z'.toList) = true ↔ xv = yv := by rw [eqS (Lib.toList_data Z) (Lib.toList_data Z'), hZd, hZd']; exact decide_eq_true_iff
        have htst : (Z.toList == Z'.toList && (xo == yo && veq ⟨xk, xn, xs⟩ ⟨yk, yn, ys⟩)) = true ↔ (⟨xv, xo, ⟨xk, xn, xs⟩⟩ : Cnd) = ⟨yv, yo, ⟨yk, yn, ys⟩⟩ := by
          rw [Bool.and_eq_true, hzz]
          rw [Bool.and_eq_true, beq_iff_eq, veq_iff]
          constructor
          · rintro ⟨rfl, rfl, h⟩; injection h with h1 h2 h3; subst h1 h2 h3; rfl
          · intro h; cases h; simp
        by_cases hxy : (⟨xv, xo, ⟨xk, xn, xs⟩⟩ : Cnd) = ⟨yv, yo, ⟨yk, yn, ys⟩⟩
        · have ht := htst.2 hxy
          have HN := hid (hon hxy)
          have EQ := eq_cnd Z xo xk xn xs Z' yo yk yn ys ht
          have GV := guardCnd
          clear hon hne htst hzz hZ hZ' hZd hZd' hxy hc hc' ex ey ht
          clear HK
          go_wp2
          go_quiet (fail)
          have HW2 := hid (below_drewN HW.out nq)
          go_wp2
          go_roundw
          case rel => exact ⟨k + 1, by omega, by go_num, HN, HW2⟩
          case measure => simp [intOf]; omega
        · have ht := (Bool.not_eq_true _).mp (fun h => hxy (htst.1 h))
          have hx : b = false := (Bool.not_eq_true _).mp (fun h => hne hxy (HB.out.1 h))
          subst hx
          have EQ := eq_cnd Z xo xk xn xs Z' yo yk yn ys ht
          have GV := guardCnd
          clear hon hne htst hzz hZ hZ' hZd hZd' hxy hc hc' ex ey ht
          go_wp2
          go_quiet (fail)
          go_wp2
          go_ret
          exact ⟨rfl, below_drewN HW.out nq⟩
      · have hx : b = true := HB.out.2 (tk_end hlt HL.out HK.out)
        subst hx
        go_wp2
        go_ret
        exact ⟨rfl, HW.out⟩
  · have bl : ((l.length : Int) != (l'.length : Int)) = true := by rw [bne_iff_ne]; omega
    have hx : b = false := (Bool.not_eq_true _).mp (fun h => hl (by rw [HB.out.1 h]))
    subst hx
    clear hl
    go_enter Tryz.func56, Tryz.ntmps56
    go_wp2
    go_ret
    exact ⟨rfl, Below.refl _ _⟩


/-! ### Eq2 -/

theorem bool_of (p : Prop) : ∃ b : Bool, b = true ↔ p := ⟨@decide p (Classical.propDecidable p), by simp⟩

set_option maxRecDepth 100000 in
set_option maxHeartbeats 4000000 in
theorem eq_atom (a a' : Atm) (T T' : Option Addr) (c c' : Nat) (w : World) (h : TrmsAt w T a.ts) (h' : TrmsAt w T' a'.ts) (hm : a.ts.length ≤ 9223372036854775807) (hm' : a'.ts.length ≤ 9223372036854775807) {b : Bool} (hb : b = true ↔ a = a') :
    Calls Tryz.prog 55 #[.agg #[.bool a.neg, .string ⟨a.rel.toArray⟩, .slice T a.ts.length c], .agg #[.bool a'.neg, .string ⟨a'.rel.toArray⟩, .slice T' a'.ts.length c']] w fun e w' => e = .returned (.bool b) ∧ Below w.heap.size w w' := by
  obtain ⟨ng, rl, ts⟩ := a
  obtain ⟨ng', rl', ts'⟩ := a'
  simp only at h h' hm hm' ⊢
  obtain ⟨bt, hbt⟩ := bool_of (ts = ts')
  have CT := fun W (k : Below w.heap.size w W) => hid (eq_terms T T' c c' ts ts' W (h.below k) (h'.below k) hm hm' hbt)
  have HB := hid hb
  have HBT := hid hbt
  obtain ⟨Z, hZ, hZd⟩ : ∃ Y : ByteArray, (⟨rl.toArray⟩ : ByteArray) = Y ∧ Y.data.toList = rl := ⟨_, rfl, rfl⟩
  obtain ⟨Z', hZ', hZd'⟩ : ∃ Y : ByteArray, (⟨rl'.toArray⟩ : ByteArray) = Y ∧ Y.data.toList = rl' := ⟨_, rfl, rfl⟩
  rw [hZ, hZ']
  have hzz : (Z.toList == Z'.toList) = true ↔ rl = rl' := by rw [eqS (Lib.toList_data Z) (Lib.toList_data Z'), hZd, hZd']; exact decide_eq_true_iff
  obtain ⟨n, hn⟩ : ∃ n, ts.length = n := ⟨_, rfl⟩
  obtain ⟨n', hn'⟩ : ∃ n, ts'.length = n := ⟨_, rfl⟩
  rw [hn, hn'] at CT ⊢
  have HB0 : Hid (Below (w.heap.size + 2) ((w.alloc (.cells #[.bool ng, .string Z, .slice T n c] 111)).alloc (.cells #[.bool ng', .string Z', .slice T' n' c'] 111)) ((w.alloc (.cells #[.bool ng, .string Z, .slice T n c] 111)).alloc (.cells #[.bool ng', .string Z', .slice T' n' c'] 111))) := hid (Below.refl _ _)
  obtain ⟨b0, b1, bsz, hbel⟩ := two_blocks19 HB0.out
  have r0 := coh b0 (o := 0) rfl
  have r1 := coh b0 (o := 1) rfl
  have r2 := coh b0 (o := 2) rfl
  have s0 := coh b1 (o := 0) rfl
  have s1 := coh b1 (o := 1) rfl
  have s2 := coh b1 (o := 2) rfl
  have l1 : w.heap.size + 1 < ((w.alloc (.cells #[.bool ng, .string Z, .slice T n c] 111)).alloc (.cells #[.bool ng', .string Z', .slice T' n' c'] 111)).heap.size := by omega
  clear b0 b1 bsz hb hbt h h' hm hm' hn hn' hZ hZ' hZd hZd'
  have hfin : ∀ x : Bool, (x = true ↔ (ng = ng' ∧ rl = rl' ∧ ts = ts')) → x = b := fun x hx => by
    rw [Bool.eq_iff_iff, hx, HB.out]
    constructor
    · rintro ⟨rfl, rfl, rfl⟩; rfl
    · intro h; cases h; exact ⟨rfl, rfl, rfl⟩
  by_cases h1 : ng = ng'
  · subst h1
    have e1 : (ng == ng) = true := by simp
    by_cases h2 : rl = rl'
    · have e2 := hzz.2 h2
      have hx := hfin bt ⟨fun h => ⟨rfl, h2, HBT.out.1 h⟩, fun h => HBT.out.2 h.2.2⟩
      subst hx
      clear hfin hzz h2 HB HBT
      go_enter Tryz.func55, Tryz.ntmps55
      go_wp2_with fail
      refine (CT _ hbel).out.mono ?_
      rintro e w1 ⟨rfl, b1⟩
      have hb1 := hbel.trans (b1.mono hbel.size)
      clear CT b1
      go_wp2
      go_ret
      exact ⟨by simp, hb1⟩
    · have e2 : (Z.toList == Z'.toList) = false := (Bool.not_eq_true _).mp (fun h => h2 (hzz.1 h))
      have hx := hfin false ⟨fun h => absurd h (by decide), fun h => absurd h.2.1 h2⟩
      subst hx
      clear hfin hzz h2 HB HBT CT
      go_enter Tryz.func55, Tryz.ntmps55
      go_wp2
      go_ret
      exact ⟨rfl, hbel⟩
  · have e1 : (ng == ng') = false := by simpa using h1
    have hx := hfin false ⟨fun h => absurd h (by decide), fun h => absurd h.1 h1⟩
    subst hx
    clear hfin hzz h1 HB HBT CT
    go_enter Tryz.func55, Tryz.ntmps55
    go_wp2
    go_ret
    exact ⟨rfl, hbel⟩

/-! ### Eq3 -/

set_option maxRecDepth 100000 in
set_option maxHeartbeats 4000000 in
theorem eq_atoms (A A' : Option Addr) (c c' : Nat) (l l' : List Atm) (w : World) (h : AtmsAt w A l) (h' : AtmsAt w A' l') (hm : l.length ≤ 9223372036854775807) (hm' : l'.length ≤ 9223372036854775807) {b : Bool} (hb : b = true ↔ l = l') :
    Calls Tryz.prog 54 #[.slice A l.length c, .slice A' l'.length c', .func (.func 55) #[] #[]] w fun e w' => e = .returned (.bool b) ∧ Below w.heap.size w w' := by
  have HB := hid hb
  have H1 := hid h
  have H2 := hid h'
  clear hb h h'
  by_cases hl : l.length = l'.length
  · have bl : ((l.length : Int) != (l'.length : Int)) = false := by rw [bne_eq_false_iff_eq]; omega
    have HL := hid hl
    clear hl
    go_enter Tryz.func54, Tryz.ntmps54
    go_wp2
    go_loopw [17] (fun i wr => ∃ k : Nat, k ≤ l.length ∧ i = .int .i64 k ∧ Hid (l.take k = l'.take k) ∧ Hid (Below w.heap.size w wr)) (fun i _ => l.length - (intOf i).toNat)
    case atStart => exact ⟨0, by omega, rfl, hid (by simp), hid (Below.refl _ _)⟩
    case round =>
      obtain ⟨k, hk, rfl, HK, HW⟩ := hrel
      rename World => wo
      by_cases hlt : k < l.length
      · have hlt' : k < l'.length := by have := HL.out; omega
        obtain ⟨g, o, rfl, hc⟩ := H1.out (by omega)
        obtain ⟨g', o', rfl, hc'⟩ := H2.out (by omega)
        obtain ⟨T, q, c0, c1, c2, ht, _, mt⟩ := hc k hlt
        obtain ⟨T', q', e0, e1, e2, ht', _, mt'⟩ := hc' k hlt'
        have hon := fun h => tk_on hlt hlt' HK.out h
        have hne := fun h => tk_ne hlt hlt' h
        replace c0 := cell_keep HW.out c0
        replace c1 := cell_keep HW.out c1
        replace c2 := cell_keep HW.out c2
        replace e0 := cell_keep HW.out e0
        replace e1 := cell_keep HW.out e1
        replace e2 := cell_keep HW.out e2
        obtain ⟨x, ex⟩ : ∃ x, l[k] = x := ⟨_, rfl⟩
        obtain ⟨y, ey⟩ : ∃ x, l'[k] = x := ⟨_, rfl⟩
        rw [ex] at c0 c1 c2 ht mt
        rw [ey] at e0 e1 e2 ht' mt'
        rw [ex, ey] at hon hne
        obtain ⟨bt, hbt⟩ := bool_of (x = y)
        have CE := fun W (k : Below w.heap.size w W) => hid (eq_atom x y T T' q q' W (ht.below k) (ht'.below k) mt mt' hbt)
        obtain ⟨Z, hZ⟩ : ∃ Y : ByteArray, (⟨x.rel.toArray⟩ : ByteArray) = Y := ⟨_, rfl⟩
        obtain ⟨Z', hZ'⟩ : ∃ Y : ByteArray, (⟨y.rel.toArray⟩ : ByteArray) = Y := ⟨_, rfl⟩
        obtain ⟨n, hn⟩ : ∃ n, x.ts.length = n := ⟨_, rfl⟩
        obtain ⟨n', hn'⟩ : ∃ n, y.ts.length = n := ⟨_, rfl⟩
        obtain ⟨ng, hng⟩ : ∃ n, x.neg = n := ⟨_, rfl⟩
        obtain ⟨ng', hng'⟩ : ∃ n, y.neg = n := ⟨_, rfl⟩
        rw [hZ] at c1 CE
        rw [hZ'] at e1 CE
        rw [hn] at c2 CE
        rw [hn'] at e2 CE
        rw [hng] at c0 CE
        rw [hng'] at e0 CE
        have hb2 := HW.out.trans ((below_two wo (.cells #[.bool ng, .string Z, .slice T n q] 111) (.cells #[.bool ng', .string Z', .slice T' n' q'] 111)).mono HW.out.size)
        have f0 := cell_keep (below_one wo (.cells #[.bool ng, .string Z, .slice T n q] 111)) e0
        have f1 := cell_keep (below_one wo (.cells #[.bool ng, .string Z, .slice T n q] 111)) e1
        have f2 := cell_keep (below_one wo (.cells #[.bool ng, .string Z, .slice T n q] 111)) e2
        have Hon := hid hon
        have Hne := hid hne
        have HBT := hid hbt
        clear hc hc' ht ht' mt mt' hon hne hbt ex ey hZ hZ' hn hn' hng hng'
        go_wp2_with fail
        refine (CE _ hb2).out.mono ?_
        rintro e w1 ⟨rfl, b1⟩
        have HW2 := hid (hb2.trans (b1.mono hb2.size))
        clear CE b1 hb2 c0 c1 c2 e0 e1 e2 f0 f1 f2
        cases bt
        · have hx : b = false := (Bool.not_eq_true _).mp (fun h => Hne.out (fun e => absurd (HBT.out.2 e) (by decide)) (HB.out.1 h))
          subst hx
          go_wp2
          go_ret
          exact ⟨rfl, HW2.out⟩
        · have HN := hid (Hon.out (HBT.out.1 rfl))
          clear HK Hon Hne HBT
          go_wp2
          go_roundw
          case rel => exact ⟨k + 1, by omega, by go_num, HN, HW2⟩
          case measure => simp [intOf]; omega
      · have hx : b = true := HB.out.2 (tk_end hlt HL.out HK.out)
        subst hx
        go_wp2
        go_ret
        exact ⟨rfl, HW.out⟩
  · have bl : ((l.length : Int) != (l'.length : Int)) = true := by rw [bne_iff_ne]; omega
    have hx : b = false := (Bool.not_eq_true _).mp (fun h => hl (by rw [HB.out.1 h]))
    subst hx
    clear hl
    go_enter Tryz.func54, Tryz.ntmps54
    go_wp2
    go_ret
    exact ⟨rfl, Below.refl _ _⟩

/-! ### Eq4 -/

set_option maxRecDepth 100000 in
set_option maxHeartbeats 4000000 in
theorem eq_rule (a a' : Rul) (T T' U U' : Option Addr) (c c' d d' : Nat) (w : World) (h : AtmsAt w T a.atoms) (h' : AtmsAt w T' a'.atoms) (k : CndsAt w U a.conds) (k' : CndsAt w U' a'.conds) (m1 : a.atoms.length ≤ 9223372036854775807) (m2 : a'.atoms.length ≤ 9223372036854775807) (m3 : a.conds.length ≤ 9223372036854775807) (m4 : a'.conds.length ≤ 9223372036854775807) {b : Bool} (hb : b = true ↔ a = a') :
    Calls Tryz.prog 30 #[.agg #[.slice T a.atoms.length c, .slice U a.conds.length d], .agg #[.slice T' a'.atoms.length c', .slice U' a'.conds.length d']] w fun e w' => e = .returned (.bool b) ∧ Below w.heap.size w w' := by
  obtain ⟨ts, cs⟩ := a
  obtain ⟨ts', cs'⟩ := a'
  simp only at h h' k k' m1 m2 m3 m4 ⊢
  obtain ⟨bt, hbt⟩ := bool_of (ts = ts')
  obtain ⟨bc, hbc⟩ := bool_of (cs = cs')
  have CT := fun W (g : Below w.heap.size w W) => hid (eq_atoms T T' c c' ts ts' W (h.below g) (h'.below g) m1 m2 hbt)
  have CC := fun W (g : Below w.heap.size w W) => hid (eq_conds U U' d d' cs cs' W (k.below g) (k'.below g) m3 m4 hbc)
  have hfin : ∀ x : Bool, (x = true ↔ (bt = true ∧ bc = true)) → x = b := fun x hx => by
    rw [Bool.eq_iff_iff, hx, hb, hbt, hbc]
    constructor
    · rintro ⟨rfl, rfl⟩; rfl
    · intro h; cases h; exact ⟨rfl, rfl⟩
  obtain ⟨n, hn⟩ : ∃ n, ts.length = n := ⟨_, rfl⟩
  obtain ⟨n', hn'⟩ : ∃ n, ts'.length = n := ⟨_, rfl⟩
  obtain ⟨p, hp⟩ : ∃ n, cs.length = n := ⟨_, rfl⟩
  obtain ⟨p', hp'⟩ : ∃ n, cs'.length = n := ⟨_, rfl⟩
  rw [hn, hn'] at CT
  rw [hp, hp'] at CC
  rw [hn, hn', hp, hp']
  have HB0 : Hid (Below (w.heap.size + 2) ((w.alloc (.cells #[.slice T n c, .slice U p d] 42)).alloc (.cells #[.slice T' n' c', .slice U' p' d'] 42)) ((w.alloc (.cells #[.slice T n c, .slice U p d] 42)).alloc (.cells #[.slice T' n' c', .slice U' p' d'] 42))) := hid (Below.refl _ _)
  obtain ⟨b0, b1, bsz, hbel⟩ := two_blocks19 HB0.out
  have r0 := coh b0 (o := 0) rfl
  have s0 := coh b1 (o := 0) rfl
  have l1 : w.heap.size + 1 < ((w.alloc (.cells #[.slice T n c, .slice U p d] 42)).alloc (.cells #[.slice T' n' c', .slice U' p' d'] 42)).heap.size := by omega
  clear b0 b1 bsz hb hbt hbc h h' k k' m1 m2 m3 m4 hn hn' hp hp'
  go_enter Tryz.func30, Tryz.ntmps30
  go_wp2_with fail
  refine (CT _ hbel).out.mono ?_
  rintro e w1 ⟨rfl, b1⟩
  have HB1 := hid (HB0.out.trans (b1.mono (by simp)))
  clear CT b1 HB0 hbel r0 s0 l1
  obtain ⟨b0, b1, bsz, hbel⟩ := two_blocks19 HB1.out
  have r1 := coh b0 (o := 1) rfl
  have s1 := coh b1 (o := 1) rfl
  have l0 : w.heap.size < w1.heap.size := by omega
  have l1 : w.heap.size + 1 < w1.heap.size := by omega
  clear b0 b1 bsz
  cases bt
  · have hx := hfin false (by simp)
    subst hx
    clear hfin CC
    go_wp2
    go_ret
    exact ⟨rfl, hbel⟩
  · have hx := hfin bc (by simp)
    subst hx
    clear hfin
    go_wp2_with fail
    refine (CC _ hbel).out.mono ?_
    rintro e w2 ⟨rfl, b2⟩
    have hb2 := hbel.trans (b2.mono hbel.size)
    clear CC b2
    go_wp2
    go_ret
    exact ⟨rfl, hb2⟩

/-! ### Eq5 -/

set_option maxRecDepth 100000 in
set_option maxHeartbeats 4000000 in
theorem eq_rules (A A' : Option Addr) (c c' : Nat) (l l' : List Rul) (w : World) (h : RulsAt w A l) (h' : RulsAt w A' l') (hm : l.length ≤ 9223372036854775807) (hm' : l'.length ≤ 9223372036854775807) {b : Bool} (hb : b = true ↔ l = l') :
    Calls Tryz.prog 29 #[.slice A l.length c, .slice A' l'.length c', .func (.func 30) #[] #[]] w fun e w' => e = .returned (.bool b) ∧ Below w.heap.size w w' := by
  have HB := hid hb
  have H1 := hid h
  have H2 := hid h'
  clear hb h h'
  by_cases hl : l.length = l'.length
  · have bl : ((l.length : Int) != (l'.length : Int)) = false := by rw [bne_eq_false_iff_eq]; omega
    have HL := hid hl
    clear hl
    go_enter Tryz.func29, Tryz.ntmps29
    go_wp2
    go_loopw [17] (fun i wr => ∃ k : Nat, k ≤ l.length ∧ i = .int .i64 k ∧ Hid (l.take k = l'.take k) ∧ Hid (Below w.heap.size w wr)) (fun i _ => l.length - (intOf i).toNat)
    case atStart => exact ⟨0, by omega, rfl, hid (by simp), hid (Below.refl _ _)⟩
    case round =>
      obtain ⟨k, hk, rfl, HK, HW⟩ := hrel
      rename World => wo
      by_cases hlt : k < l.length
      · have hlt' : k < l'.length := by have := HL.out; omega
        obtain ⟨g, o, rfl, hc⟩ := H1.out (by omega)
        obtain ⟨g', o', rfl, hc'⟩ := H2.out (by omega)
        obtain ⟨T, q, U, d, c0, c1, ht, hu, _, _, mt, mu⟩ := hc k hlt
        obtain ⟨T', q', U', d', e0, e1, ht', hu', _, _, mt', mu'⟩ := hc' k hlt'
        have hon := fun h => tk_on hlt hlt' HK.out h
        have hne := fun h => tk_ne hlt hlt' h
        replace c0 := cell_keep HW.out c0
        replace c1 := cell_keep HW.out c1
        replace e0 := cell_keep HW.out e0
        replace e1 := cell_keep HW.out e1
        obtain ⟨x, ex⟩ : ∃ x, l[k] = x := ⟨_, rfl⟩
        obtain ⟨y, ey⟩ : ∃ x, l'[k] = x := ⟨_, rfl⟩
        rw [ex] at c0 c1 ht hu mt mu
        rw [ey] at e0 e1 ht' hu' mt' mu'
        rw [ex, ey] at hon hne
        obtain ⟨bt, hbt⟩ := bool_of (x = y)
        have CE := fun W (k : Below w.heap.size w W) => hid (eq_rule x y T T' U U' q q' d d' W (ht.below k) (ht'.below k) (hu.below k) (hu'.below k) mt mt' mu mu' hbt)
        obtain ⟨n, hn⟩ : ∃ n, x.atoms.length = n := ⟨_, rfl⟩
        obtain ⟨n', hn'⟩ : ∃ n, y.atoms.length = n := ⟨_, rfl⟩
        obtain ⟨p, hp⟩ : ∃ n, x.conds.length = n := ⟨_, rfl⟩
        obtain ⟨p', hp'⟩ : ∃ n, y.conds.length = n := ⟨_, rfl⟩
        rw [hn] at c0 CE
        rw [hn'] at e0 CE
        rw [hp] at c1 CE
        rw [hp'] at e1 CE
        have hb2 := HW.out.trans ((below_two wo (.cells #[.slice T n q, .slice U p d] 42) (.cells #[.slice T' n' q', .slice U' p' d'] 42)).mono HW.out.size)
        have f0 := cell_keep (below_one wo (.cells #[.slice T n q, .slice U p d] 42)) e0
        have f1 := cell_keep (below_one wo (.cells #[.slice T n q, .slice U p d] 42)) e1
        have Hon := hid hon
        have Hne := hid hne
        have HBT := hid hbt
        clear hc hc' ht ht' hu hu' mt mt' mu mu' hon hne hbt ex ey hn hn' hp hp'
        go_wp2_with fail
        refine (CE _ hb2).out.mono ?_
        rintro e w1 ⟨rfl, b1⟩
        have HW2 := hid (hb2.trans (b1.mono hb2.size))
        clear CE b1 hb2 c0 c1 e0 e1 f0 f1
        cases bt
        · have hx : b = false := (Bool.not_eq_true _).mp (fun h => Hne.out (fun e => absurd (HBT.out.2 e) (by decide)) (HB.out.1 h))
          subst hx
          go_wp2
          go_ret
          exact ⟨rfl, HW2.out⟩
        · have HN := hid (Hon.out (HBT.out.1 rfl))
          clear HK Hon Hne HBT
          go_wp2
          go_roundw
          case rel => exact ⟨k + 1, by omega, by go_num, HN, HW2⟩
          case measure => simp [intOf]; omega
      · have hx : b = true := HB.out.2 (tk_end hlt HL.out HK.out)
        subst hx
        go_wp2
        go_ret
        exact ⟨rfl, HW.out⟩
  · have bl : ((l.length : Int) != (l'.length : Int)) = true := by rw [bne_iff_ne]; omega
    have hx : b = false := (Bool.not_eq_true _).mp (fun h => hl (by rw [HB.out.1 h]))
    subst hx
    clear hl
    go_enter Tryz.func29, Tryz.ntmps29
    go_wp2
    go_ret
    exact ⟨rfl, Below.refl _ _⟩

/-! ### Eq6 -/

set_option maxRecDepth 100000 in
set_option maxHeartbeats 8000000 in
theorem ast_equal (q q' : Qry) (A R O A' R' O' : Option Addr) (ch cr co ch' cr' co' : Nat) (w : World) (h : QryIn w q A R O ch cr co) (h' : QryIn w q' A' R' O' ch' cr' co') {b : Bool} (hb : b = true ↔ q = q') :
    Calls Tryz.prog 12 #[qryV q A R O ch cr co, qryV q' A' R' O' ch' cr' co'] w fun e w' => e = .returned (.bool b) ∧ Below w.heap.size w w' := by
  have HQ := hid h
  have HQ' := hid h'
  obtain ⟨b1, hb1⟩ := bool_of (q.head = q'.head)
  obtain ⟨b2, hb2⟩ := bool_of (q.order = q'.order)
  obtain ⟨b3, hb3⟩ := bool_of (q.rules = q'.rules)
  have C1 := fun W (g : Below w.heap.size w W) => hid (eq_strings A A' ch ch' q.head q'.head W (HQ.out.head.below g) (HQ'.out.head.below g) HQ.out.mh HQ'.out.mh hb1)
  have C2 := fun W (g : Below w.heap.size w W) => hid (eq_keys O O' co co' q.order q'.order W (HQ.out.order.below g) (HQ'.out.order.below g) HQ.out.mo HQ'.out.mo hb2)
  have C3 := fun W (g : Below w.heap.size w W) => hid (eq_rules R R' cr cr' q.rules q'.rules W (HQ.out.rules.below g) (HQ'.out.rules.below g) HQ.out.mr HQ'.out.mr hb3)
  unfold qryV
  obtain ⟨Y, hY, hYd⟩ : ∃ Y : ByteArray, (⟨q.aggVar.toArray⟩ : ByteArray) = Y ∧ Y.data.toList = q.aggVar := ⟨_, rfl, rfl⟩
  obtain ⟨Y', hY', hYd'⟩ : ∃ Y : ByteArray, (⟨q'.aggVar.toArray⟩ : ByteArray) = Y ∧ Y.data.toList = q'.aggVar := ⟨_, rfl, rfl⟩
  rw [hY, hY']
  have hyy : (Y.toList == Y'.toList) = true ↔ q.aggVar = q'.aggVar := by rw [eqS (Lib.toList_data Y) (Lib.toList_data Y'), hYd, hYd']; exact decide_eq_true_iff
  clear hY hY' hYd hYd' h h' HQ HQ'
  obtain ⟨hd, ga, av, rs, os⟩ := q
  obtain ⟨hd', ga', av', rs', os'⟩ := q'
  simp only at *
  have hfin : ∀ x : Bool, (x = true ↔ (ga = ga' ∧ (Y.toList == Y'.toList) = true ∧ b1 = true ∧ b2 = true ∧ b3 = true)) → x = b := fun x hx => by
    rw [Bool.eq_iff_iff, hx, hb, hb1, hb2, hb3, hyy]
    constructor
    · rintro ⟨rfl, rfl, rfl, rfl, rfl⟩; rfl
    · intro h; cases h; exact ⟨rfl, rfl, rfl, rfl, rfl⟩
  obtain ⟨n1, e1⟩ : ∃ n, hd.length = n := ⟨_, rfl⟩
  obtain ⟨n2, e2⟩ : ∃ n, hd'.length = n := ⟨_, rfl⟩
  obtain ⟨n3, e3⟩ : ∃ n, rs.length = n := ⟨_, rfl⟩
  obtain ⟨n4, e4⟩ : ∃ n, rs'.length = n := ⟨_, rfl⟩
  obtain ⟨n5, e5⟩ : ∃ n, os.length = n := ⟨_, rfl⟩
  obtain ⟨n6, e6⟩ : ∃ n, os'.length = n := ⟨_, rfl⟩
  rw [e1, e2] at C1
  rw [e5, e6] at C2
  rw [e3, e4] at C3
  rw [e1, e2, e3, e4, e5, e6]
  clear e1 e2 e3 e4 e5 e6 hb hb1 hb2 hb3 hyy
  have HB0 : Hid (Below (w.heap.size + 2) ((w.alloc (.cells #[.slice A n1 ch, .int .i64 ga, .string Y, .slice R n3 cr, .slice O n5 co] 27)).alloc (.cells #[.slice A' n2 ch', .int .i64 ga', .string Y', .slice R' n4 cr', .slice O' n6 co'] 27)) ((w.alloc (.cells #[.slice A n1 ch, .int .i64 ga, .string Y, .slice R n3 cr, .slice O n5 co] 27)).alloc (.cells #[.slice A' n2 ch', .int .i64 ga', .string Y', .slice R' n4 cr', .slice O' n6 co'] 27))) := hid (Below.refl _ _)
  obtain ⟨b0, bb, bsz, hbel⟩ := two_blocks19 HB0.out
  have r0 := coh b0 (o := 0) rfl
  have s0 := coh bb (o := 0) rfl
  have r1 := coh b0 (o := 1) rfl
  have s1 := coh bb (o := 1) rfl
  have r2 := coh b0 (o := 2) rfl
  have s2 := coh bb (o := 2) rfl
  have r3 := coh b0 (o := 3) rfl
  have s3 := coh bb (o := 3) rfl
  have r4 := coh b0 (o := 4) rfl
  have s4 := coh bb (o := 4) rfl
  have l0 : w.heap.size < ((w.alloc (.cells #[.slice A n1 ch, .int .i64 ga, .string Y, .slice R n3 cr, .slice O n5 co] 27)).alloc (.cells #[.slice A' n2 ch', .int .i64 ga', .string Y', .slice R' n4 cr', .slice O' n6 co'] 27)).heap.size := by omega
  have l1 : w.heap.size + 1 < ((w.alloc (.cells #[.slice A n1 ch, .int .i64 ga, .string Y, .slice R n3 cr, .slice O n5 co] 27)).alloc (.cells #[.slice A' n2 ch', .int .i64 ga', .string Y', .slice R' n4 cr', .slice O' n6 co'] 27)).heap.size := by omega
  clear b0 bb bsz
  by_cases h1 : ga = ga'
  · have x1 : (ga == ga') = true := by simpa using h1
    have HG := hid h1
    clear h1
    by_cases h2 : (Y.toList == Y'.toList) = true
    · have HE := hid h2
      go_enter Tryz.func12, Tryz.ntmps12
      go_wp2_with fail
      refine (C1 _ hbel).out.mono ?_
      rintro e w1 ⟨rfl, k1⟩
      have HB1 := hid (HB0.out.trans (k1.mono (by have := HB0.out.size; first | (simp at this ⊢; done) | (simp at this ⊢; omega) | omega)))
      clear C1 k1 r0 r1 r2 r3 r4 s0 s1 s2 s3 s4 l0 l1 hbel HB0
      obtain ⟨b0, bb, bsz, hbel⟩ := two_blocks19 HB1.out
      have r0 := coh b0 (o := 0) rfl
      have s0 := coh bb (o := 0) rfl
      have r1 := coh b0 (o := 1) rfl
      have s1 := coh bb (o := 1) rfl
      have r2 := coh b0 (o := 2) rfl
      have s2 := coh bb (o := 2) rfl
      have r3 := coh b0 (o := 3) rfl
      have s3 := coh bb (o := 3) rfl
      have r4 := coh b0 (o := 4) rfl
      have s4 := coh bb (o := 4) rfl
      have l0 : w.heap.size < w1.heap.size := by omega
      have l1 : w.heap.size + 1 < w1.heap.size := by omega
      clear b0 bb bsz
      cases b1
      · have hx := hfin false (by simp)
        subst hx
        clear hfin C2 C3
        go_wp2
        go_ret
        exact ⟨rfl, hbel⟩
      · go_wp2_with fail
        refine (C2 _ hbel).out.mono ?_
        rintro e w2 ⟨rfl, k2⟩
        have HB2 := hid (HB1.out.trans (k2.mono (by have := HB1.out.size; first | (simp at this ⊢; done) | (simp at this ⊢; omega) | omega)))
        clear C2 k2 r0 r1 r2 r3 r4 s0 s1 s2 s3 s4 l0 l1 hbel HB1
        obtain ⟨b0, bb, bsz, hbel⟩ := two_blocks19 HB2.out
        have r0 := coh b0 (o := 0) rfl
        have s0 := coh bb (o := 0) rfl
        have r1 := coh b0 (o := 1) rfl
        have s1 := coh bb (o := 1) rfl
        have r2 := coh b0 (o := 2) rfl
        have s2 := coh bb (o := 2) rfl
        have r3 := coh b0 (o := 3) rfl
        have s3 := coh bb (o := 3) rfl
        have r4 := coh b0 (o := 4) rfl
        have s4 := coh bb (o := 4) rfl
        have l0 : w.heap.size < w2.heap.size := by omega
        have l1 : w.heap.size + 1 < w2.heap.size := by omega
        clear b0 bb bsz
        cases b2
        · have hx := hfin false (by simp)
          subst hx
          clear hfin C3
          go_wp2
          go_ret
          exact ⟨rfl, hbel⟩
        · have hx := hfin b3 (by have h1 := HG.out; have h2 := HE.out; simp [h1, h2])
          subst hx
          clear hfin
          go_wp2_with fail
          refine (C3 _ hbel).out.mono ?_
          rintro e w3 ⟨rfl, k3⟩
          have hb := hbel.trans (k3.mono hbel.size)
          clear C3 k3
          go_wp2
          go_ret
          exact ⟨rfl, hb⟩
    · have x2 : (Y.toList == Y'.toList) = false := (Bool.not_eq_true _).mp h2
      have hx := hfin false (by simp [x2])
      subst hx
      clear hfin C1 C2 C3 h2
      go_enter Tryz.func12, Tryz.ntmps12
      go_wp2
      go_ret
      exact ⟨rfl, hbel⟩
  · have x1 : (ga == ga') = false := by simpa using h1
    have hx := hfin false (by simp [h1])
    subst hx
    clear hfin C1 C2 C3 h1
    go_enter Tryz.func12, Tryz.ntmps12
    go_wp2
    go_ret
    exact ⟨rfl, hbel⟩
end
end Go.Proofs.YtnbacdmlaedppaaGreatDoor
