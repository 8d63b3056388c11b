/-
  WALK: ast.Equal.
-/
import Derived.Test.YtgeapgbebbapmaaDoorEq5
namespace Go.Proofs.YtgeapgbebbapmaaDoor
open Go.RowKit

set_option maxRecDepth 100000 in
set_option maxHeartbeats 8000000 in
theorem ast_equal (q q' : Qry) (A R O A' R' O' : Option Addr) (ch cr co ch' cr' co' : Nat) (w : World) (h : QryIn w q A R O ch cr co) (h' : QryIn w q' A' R' O' ch' cr' co') {b : Bool} (hb : b = true ↔ q = q') :
    Calls Tryd.prog 15 #[qryV q A R O ch cr co, qryV q' A' R' O' ch' cr' co'] w fun e w' => e = .returned (.bool b) ∧ Below w.heap.size w w' := by
  have HQ := hid h
  have HQ' := hid h'
  obtain ⟨b1, hb1⟩ := bool_of (q.head = q'.head)
  obtain ⟨b2, hb2⟩ := bool_of (q.order = q'.order)
  obtain ⟨b3, hb3⟩ := bool_of (q.rules = q'.rules)
  have C1 := fun W (g : Below w.heap.size w W) => hid (eq_strings A A' ch ch' q.head q'.head W (HQ.out.head.below g) (HQ'.out.head.below g) HQ.out.mh HQ'.out.mh hb1)
  have C2 := fun W (g : Below w.heap.size w W) => hid (eq_keys O O' co co' q.order q'.order W (HQ.out.order.below g) (HQ'.out.order.below g) HQ.out.mo HQ'.out.mo hb2)
  have C3 := fun W (g : Below w.heap.size w W) => hid (eq_rules R R' cr cr' q.rules q'.rules W (HQ.out.rules.below g) (HQ'.out.rules.below g) HQ.out.mr HQ'.out.mr hb3)
  unfold qryV
  obtain ⟨Y, hY, hYd⟩ : ∃ Y : ByteArray, (⟨q.aggVar.toArray⟩ : ByteArray) = Y ∧ Y.data.toList = q.aggVar := ⟨_, rfl, rfl⟩
  obtain ⟨Y', hY', hYd'⟩ : ∃ Y : ByteArray, (⟨q'.aggVar.toArray⟩ : ByteArray) = Y ∧ Y.data.toList = q'.aggVar := ⟨_, rfl, rfl⟩
  rw [hY, hY']
  have hyy : (Y.toList == Y'.toList) = true ↔ q.aggVar = q'.aggVar := by rw [eqS (Lib.toList_data Y) (Lib.toList_data Y'), hYd, hYd']; exact decide_eq_true_iff
  clear hY hY' hYd hYd' h h' HQ HQ'
  obtain ⟨hd, ga, av, rs, os⟩ := q
  obtain ⟨hd', ga', av', rs', os'⟩ := q'
  simp only at *
  have hfin : ∀ x : Bool, (x = true ↔ (ga = ga' ∧ (Y.toList == Y'.toList) = true ∧ b1 = true ∧ b2 = true ∧ b3 = true)) → x = b := fun x hx => by
    rw [Bool.eq_iff_iff, hx, hb, hb1, hb2, hb3, hyy]
    constructor
    · rintro ⟨rfl, rfl, rfl, rfl, rfl⟩; rfl
    · intro h; cases h; exact ⟨rfl, rfl, rfl, rfl, rfl⟩
  obtain ⟨n1, e1⟩ : ∃ n, hd.length = n := ⟨_, rfl⟩
  obtain ⟨n2, e2⟩ : ∃ n, hd'.length = n := ⟨_, rfl⟩
  obtain ⟨n3, e3⟩ : ∃ n, rs.length = n := ⟨_, rfl⟩
  obtain ⟨n4, e4⟩ : ∃ n, rs'.length = n := ⟨_, rfl⟩
  obtain ⟨n5, e5⟩ : ∃ n, os.length = n := ⟨_, rfl⟩
  obtain ⟨n6, e6⟩ : ∃ n, os'.length = n := ⟨_, rfl⟩
  rw [e1, e2] at C1
  rw [e5, e6] at C2
  rw [e3, e4] at C3
  rw [e1, e2, e3, e4, e5, e6]
  clear e1 e2 e3 e4 e5 e6 hb hb1 hb2 hb3 hyy
  have HB0 : Hid (Below (w.heap.size + 2) ((w.alloc (.cells #[.slice A n1 ch, .int .i64 ga, .string Y, .slice R n3 cr, .slice O n5 co] 26)).alloc (.cells #[.slice A' n2 ch', .int .i64 ga', .string Y', .slice R' n4 cr', .slice O' n6 co'] 26)) ((w.alloc (.cells #[.slice A n1 ch, .int .i64 ga, .string Y, .slice R n3 cr, .slice O n5 co] 26)).alloc (.cells #[.slice A' n2 ch', .int .i64 ga', .string Y', .slice R' n4 cr', .slice O' n6 co'] 26))) := hid (Below.refl _ _)
  obtain ⟨b0, bb, bsz, hbel⟩ := two_blocks19 HB0.out
  have r0 := coh b0 (o := 0) rfl
  have s0 := coh bb (o := 0) rfl
  have r1 := coh b0 (o := 1) rfl
  have s1 := coh bb (o := 1) rfl
  have r2 := coh b0 (o := 2) rfl
  have s2 := coh bb (o := 2) rfl
  have r3 := coh b0 (o := 3) rfl
  have s3 := coh bb (o := 3) rfl
  have r4 := coh b0 (o := 4) rfl
  have s4 := coh bb (o := 4) rfl
  have l0 : w.heap.size < ((w.alloc (.cells #[.slice A n1 ch, .int .i64 ga, .string Y, .slice R n3 cr, .slice O n5 co] 26)).alloc (.cells #[.slice A' n2 ch', .int .i64 ga', .string Y', .slice R' n4 cr', .slice O' n6 co'] 26)).heap.size := by omega
  have l1 : w.heap.size + 1 < ((w.alloc (.cells #[.slice A n1 ch, .int .i64 ga, .string Y, .slice R n3 cr, .slice O n5 co] 26)).alloc (.cells #[.slice A' n2 ch', .int .i64 ga', .string Y', .slice R' n4 cr', .slice O' n6 co'] 26)).heap.size := by omega
  clear b0 bb bsz
  by_cases h1 : ga = ga'
  · have x1 : (ga == ga') = true := by simpa using h1
    have HG := hid h1
    clear h1
    by_cases h2 : (Y.toList == Y'.toList) = true
    · have HE := hid h2
      go_enter Tryd.func15, Tryd.ntmps15
      go_wp2_with fail
      refine (C1 _ hbel).out.mono ?_
      rintro e w1 ⟨rfl, k1⟩
      have HB1 := hid (HB0.out.trans (k1.mono (by have := HB0.out.size; first | (simp at this ⊢; done) | (simp at this ⊢; omega) | omega)))
      clear C1 k1 r0 r1 r2 r3 r4 s0 s1 s2 s3 s4 l0 l1 hbel HB0
      obtain ⟨b0, bb, bsz, hbel⟩ := two_blocks19 HB1.out
      have r0 := coh b0 (o := 0) rfl
      have s0 := coh bb (o := 0) rfl
      have r1 := coh b0 (o := 1) rfl
      have s1 := coh bb (o := 1) rfl
      have r2 := coh b0 (o := 2) rfl
      have s2 := coh bb (o := 2) rfl
      have r3 := coh b0 (o := 3) rfl
      have s3 := coh bb (o := 3) rfl
      have r4 := coh b0 (o := 4) rfl
      have s4 := coh bb (o := 4) rfl
      have l0 : w.heap.size < w1.heap.size := by omega
      have l1 : w.heap.size + 1 < w1.heap.size := by omega
      clear b0 bb bsz
      cases b1
      · have hx := hfin false (by simp)
        subst hx
        clear hfin C2 C3
        go_wp2
        go_ret
        exact ⟨rfl, hbel⟩
      · go_wp2_with fail
        refine (C2 _ hbel).out.mono ?_
        rintro e w2 ⟨rfl, k2⟩
        have HB2 := hid (HB1.out.trans (k2.mono (by have := HB1.out.size; first | (simp at this ⊢; done) | (simp at this ⊢; omega) | omega)))
        clear C2 k2 r0 r1 r2 r3 r4 s0 s1 s2 s3 s4 l0 l1 hbel HB1
        obtain ⟨b0, bb, bsz, hbel⟩ := two_blocks19 HB2.out
        have r0 := coh b0 (o := 0) rfl
        have s0 := coh bb (o := 0) rfl
        have r1 := coh b0 (o := 1) rfl
        have s1 := coh bb (o := 1) rfl
        have r2 := coh b0 (o := 2) rfl
        have s2 := coh bb (o := 2) rfl
        have r3 := coh b0 (o := 3) rfl
        have s3 := coh bb (o := 3) rfl
        have r4 := coh b0 (o := 4) rfl
        have s4 := coh bb (o := 4) rfl
        have l0 : w.heap.size < w2.heap.size := by omega
        have l1 : w.heap.size + 1 < w2.heap.size := by omega
        clear b0 bb bsz
        cases b2
        · have hx := hfin false (by simp)
          subst hx
          clear hfin C3
          go_wp2
          go_ret
          exact ⟨rfl, hbel⟩
        · have hx := hfin b3 (by have h1 := HG.out; have h2 := HE.out; simp [h1, h2])
          subst hx
          clear hfin
          go_wp2_with fail
          refine (C3 _ hbel).out.mono ?_
          rintro e w3 ⟨rfl, k3⟩
          have hb := hbel.trans (k3.mono hbel.size)
          clear C3 k3
          go_wp2
          go_ret
          exact ⟨rfl, hb⟩
    · have x2 : (Y.toList == Y'.toList) = false := (Bool.not_eq_true _).mp h2
      have hx := hfin false (by simp [x2])
      subst hx
      clear hfin C1 C2 C3 h2
      go_enter Tryd.func15, Tryd.ntmps15
      go_wp2
      go_ret
      exact ⟨rfl, hbel⟩
  · have x1 : (ga == ga') = false := by simpa using h1
    have hx := hfin false (by simp [h1])
    subst hx
    clear hfin C1 C2 C3 h1
    go_enter Tryd.func15, Tryd.ntmps15
    go_wp2
    go_ret
    exact ⟨rfl, hbel⟩
end Go.Proofs.YtgeapgbebbapmaaDoor
