/-
  WALK: the law AstTexts.
-/
import Derived.Test.YtgeapgbebbapmaaDoorAw19
import Derived.Test.YtgeapgbebbapmaaDoorPrt
import Derived.Test.YtgeapgbebbapmaaDoorTxI
import Derived.Test.YtgeapgbebbapmaaDoorEq6
namespace Go.Proofs.YtgeapgbebbapmaaDoor
open Go.RowKit

/-- The cells of two boxes at once. -/
theorem two_qry {w w' : World} {v0 v1 v2 v3 v4 u0 u1 u2 u3 u4 : Value} {t t' : TypeId} (h : Below (w.heap.size + 2) ((w.alloc (.cells #[v0, v1, v2, v3, v4] t)).alloc (.cells #[u0, u1, u2, u3, u4] t')) w') :
    (w'.cell? ⟨w.heap.size, 0, none⟩ = some v0 ∧ w'.cell? ⟨w.heap.size, 1, none⟩ = some v1 ∧ w'.cell? ⟨w.heap.size, 2, none⟩ = some v2 ∧ w'.cell? ⟨w.heap.size, 3, none⟩ = some v3 ∧ w'.cell? ⟨w.heap.size, 4, none⟩ = some v4) ∧
    (w'.cell? ⟨w.heap.size + 1, 0, none⟩ = some u0 ∧ w'.cell? ⟨w.heap.size + 1, 1, none⟩ = some u1 ∧ w'.cell? ⟨w.heap.size + 1, 2, none⟩ = some u2 ∧ w'.cell? ⟨w.heap.size + 1, 3, none⟩ = some u3 ∧ w'.cell? ⟨w.heap.size + 1, 4, none⟩ = some u4) ∧
    w.heap.size < w'.heap.size ∧ w.heap.size + 1 < w'.heap.size ∧ Below w.heap.size w w' := by
  obtain ⟨b0, bb, bsz, hbel⟩ := two_blocks19 h
  exact ⟨⟨coh b0 (o := 0) rfl, coh b0 (o := 1) rfl, coh b0 (o := 2) rfl, coh b0 (o := 3) rfl, coh b0 (o := 4) rfl⟩, ⟨coh bb (o := 0) rfl, coh bb (o := 1) rfl, coh bb (o := 2) rfl, coh bb (o := 3) rfl, coh bb (o := 4) rfl⟩, by omega, by omega, hbel⟩
theorem print_ways (q : Qry) : ((printQ q).2 = 0 → checkQ q = 0 ∧ (printQ q).1 = textQ q) := by
  unfold printQ
  split
  · rename_i h; exact fun _ => ⟨h, rfl⟩
  · rename_i h; exact fun e => absurd e h

set_option maxRecDepth 100000 in
set_option maxHeartbeats 8000000 in
theorem law_texts19 (p q : Qry) (A R O A' R' O' : Option Addr) (ch cr co ch' cr' co' : Nat) (w : World) (hp : QryIn w p A R O ch cr co) (hq : QryIn w q A' R' O' ch' cr' co') (hwp : p.wf) (hwq : q.wf) (htab : Tab w) :
    Calls Tryd.prog 5 #[qryV p A R O ch cr co, qryV q A' R' O' ch' cr' co'] w fun e w' => e = .returned (.bool true) ∧ Below w.heap.size w w' := by
  have CG1 := fun W h => hid (law_great19 p A R O ch cr co W h)
  have CG2 := fun W h => hid (law_great19 q A' R' O' ch' cr' co' W h)
  have CA := fun W (b : Below w.heap.size w W) => hid (law_awake19 W (htab.below b))
  have C1 := fun W h (b : Below w.heap.size w W) => hid (ast_print p A R O ch cr co W h hwp (htab.below b) rfl)
  have C2 := fun W h (b : Below w.heap.size w W) => hid (ast_print q A' R' O' ch' cr' co' W h hwq (htab.below b) rfl)
  have C3 := fun W h h' b (hb : b = true ↔ p = q) => hid (ast_equal p q A R O A' R' O' ch cr co ch' cr' co' W h h' hb)
  have wp := print_ways p
  have wq := print_ways q
  obtain ⟨⟨xp, n⟩, ep⟩ : ∃ x, printQ p = x := ⟨_, rfl⟩
  obtain ⟨⟨xq, m⟩, eq⟩ : ∃ x, printQ q = x := ⟨_, rfl⟩
  rw [ep] at C1 wp
  rw [eq] at C2 wq
  simp only at C1 C2 wp wq
  obtain ⟨S, hS, hSd, hSl⟩ := nm xp
  obtain ⟨T, hT, hTd, hTl⟩ := nm xq
  rw [hS] at C1
  rw [hT] at C2
  have HF : Hid (n = 0 → m = 0 → ((S.toList == T.toList) = true ↔ p = q)) := hid (fun h1 h2 => by
    rw [hSl, hTl, beq_iff_eq, (wp h1).2, (wq h2).2]
    exact ⟨fun e => textQ_inj (wp h1).1 (wq h2).1 hwp hwq e, fun e => by rw [e]⟩)
  have HP := hid hp
  have HQ := hid hq
  obtain ⟨Y, hY⟩ : ∃ Y : ByteArray, (⟨p.aggVar.toArray⟩ : ByteArray) = Y := ⟨_, rfl⟩
  obtain ⟨Y', hY'⟩ : ∃ Y : ByteArray, (⟨q.aggVar.toArray⟩ : ByteArray) = Y := ⟨_, rfl⟩
  have e1 : qryV p A R O ch cr co = .agg #[.slice A p.head.length ch, .int .i64 p.agg, .string Y, .slice R p.rules.length cr, .slice O p.order.length co] := by unfold qryV; rw [hY]
  have e2 : qryV q A' R' O' ch' cr' co' = .agg #[.slice A' q.head.length ch', .int .i64 q.agg, .string Y', .slice R' q.rules.length cr', .slice O' q.order.length co'] := by unfold qryV; rw [hY']
  rw [e1] at CG1 C1 C3 ⊢
  rw [e2] at CG2 C2 C3 ⊢
  obtain ⟨vp, hvp⟩ : ∃ v : Array Value, #[.slice A p.head.length ch, .int .i64 p.agg, .string Y, .slice R p.rules.length cr, .slice O p.order.length co] = v := ⟨_, rfl⟩
  clear vp hvp hY hY' e1 e2 ep eq hS hSd hSl hT hTd hTl wp wq hp hq hwp hwq htab
  have HB0 : Hid (Below (w.heap.size + 2) ((w.alloc (.cells #[.slice A p.head.length ch, .int .i64 p.agg, .string Y, .slice R p.rules.length cr, .slice O p.order.length co] 26)).alloc (.cells #[.slice A' q.head.length ch', .int .i64 q.agg, .string Y', .slice R' q.rules.length cr', .slice O' q.order.length co'] 26)) ((w.alloc (.cells #[.slice A p.head.length ch, .int .i64 p.agg, .string Y, .slice R p.rules.length cr, .slice O p.order.length co] 26)).alloc (.cells #[.slice A' q.head.length ch', .int .i64 q.agg, .string Y', .slice R' q.rules.length cr', .slice O' q.order.length co'] 26))) := hid (Below.refl _ _)
  obtain ⟨⟨q0, q1, q2, q3, q4⟩, ⟨p0, p1, p2, p3, p4⟩, ql, pl, hbel⟩ := two_qry HB0.out
  go_enter Tryd.func5, Tryd.ntmps5
  go_wp2_with fail
  refine (CG1 _ (HP.out.below hbel)).out.mono ?_
  rintro e w1 ⟨bg, rfl, b1⟩
  have HB1 := hid (HB0.out.trans (b1.mono (by simp)))
  clear CG1 b1 HB0 hbel q0 q1 q2 q3 q4 p0 p1 p2 p3 p4 ql pl
  obtain ⟨⟨q0, q1, q2, q3, q4⟩, ⟨p0, p1, p2, p3, p4⟩, ql, pl, hbel⟩ := two_qry HB1.out
  cases bg
  · go_wp2_with fail
    refine (CG2 _ (HQ.out.below hbel)).out.mono ?_
    rintro e w2 ⟨bg, rfl, b2⟩
    have HB2 := hid (HB1.out.trans (b2.mono (by omega)))
    clear CG2 b2 HB1 hbel q0 q1 q2 q3 q4 p0 p1 p2 p3 p4 ql pl
    obtain ⟨⟨q0, q1, q2, q3, q4⟩, ⟨p0, p1, p2, p3, p4⟩, ql, pl, hbel⟩ := two_qry HB2.out
    cases bg
    · go_wp2_with fail
      refine (C1 _ (HP.out.below hbel) hbel).out.mono ?_
      rintro e w3 ⟨rfl, b3⟩
      have HB3 := hid (HB2.out.trans (b3.mono (by omega)))
      clear C1 b3 HB2 hbel q0 q1 q2 q3 q4 p0 p1 p2 p3 p4 ql pl
      obtain ⟨⟨q0, q1, q2, q3, q4⟩, ⟨p0, p1, p2, p3, p4⟩, ql, pl, hbel⟩ := two_qry HB3.out
      go_wp2_with fail
      refine (C2 _ (HQ.out.below hbel) hbel).out.mono ?_
      rintro e w4 ⟨rfl, b4⟩
      have HB4 := hid (HB3.out.trans (b4.mono (by omega)))
      clear C2 b4 HB3 hbel q0 q1 q2 q3 q4 p0 p1 p2 p3 p4 ql pl
      obtain ⟨⟨q0, q1, q2, q3, q4⟩, ⟨p0, p1, p2, p3, p4⟩, ql, pl, hbel⟩ := two_qry HB4.out
      by_cases h1 : n = 0
      · by_cases h2 : m = 0
        · obtain ⟨b, hb⟩ : ∃ b, (S.toList == T.toList) = b := ⟨_, rfl⟩
          have C4 := fun W h h' => hid (C3 W h h' b (by rw [← hb]; exact HF.out h1 h2)).out
          subst h1 h2
          clear HF C3
          cases b
          · go_wp2_with fail
            refine (C4 _ (HP.out.below hbel) (HQ.out.below hbel)).out.mono ?_
            rintro e w5 ⟨rfl, b5⟩
            have hb5 := hbel.trans (b5.mono hbel.size)
            clear C4 b5 HB4 q0 q1 q2 q3 q4 p0 p1 p2 p3 p4 ql pl
            go_wp2_with fail
            refine (CA _ hb5).out.mono ?_
            rintro e w6 ⟨rfl, b6⟩
            have hb6 := hb5.trans (b6.mono hb5.size)
            clear CA b6
            go_wp2
            go_ret
            exact ⟨rfl, hb6⟩
          · go_wp2_with fail
            refine (C4 _ (HP.out.below hbel) (HQ.out.below hbel)).out.mono ?_
            rintro e w5 ⟨rfl, b5⟩
            have hb5 := hbel.trans (b5.mono hbel.size)
            clear C4 b5 HB4 q0 q1 q2 q3 q4 p0 p1 p2 p3 p4 ql pl
            go_wp2_with fail
            refine (CA _ hb5).out.mono ?_
            rintro e w6 ⟨rfl, b6⟩
            have hb6 := hb5.trans (b6.mono hb5.size)
            clear CA b6
            go_wp2
            go_ret
            exact ⟨rfl, hb6⟩
        · have x2 : (m != 0) = true := by simpa using h2
          clear HF C3 q0 q1 q2 q3 q4 p0 p1 p2 p3 p4
          subst h1
          go_wp2_with fail
          refine (CA _ hbel).out.mono ?_
          rintro e w6 ⟨rfl, b6⟩
          have hb6 := hbel.trans (b6.mono hbel.size)
          clear CA b6
          go_wp2
          go_ret
          exact ⟨rfl, hb6⟩
      · have x1 : (n != 0) = true := by simpa using h1
        clear HF C3 q0 q1 q2 q3 q4 p0 p1 p2 p3 p4
        go_wp2_with fail
        refine (CA _ hbel).out.mono ?_
        rintro e w6 ⟨rfl, b6⟩
        have hb6 := hbel.trans (b6.mono hbel.size)
        clear CA b6
        go_wp2
        go_ret
        exact ⟨rfl, hb6⟩
    · clear HF C1 C2 C3 q0 q1 q2 q3 q4 p0 p1 p2 p3 p4
      go_wp2_with fail
      refine (CA _ hbel).out.mono ?_
      rintro e w6 ⟨rfl, b6⟩
      have hb6 := hbel.trans (b6.mono hbel.size)
      clear CA b6
      go_wp2
      go_ret
      exact ⟨rfl, hb6⟩
  · clear HF CG2 C1 C2 C3 q0 q1 q2 q3 q4 p0 p1 p2 p3 p4
    go_wp2_with fail
    refine (CA _ hbel).out.mono ?_
    rintro e w6 ⟨rfl, b6⟩
    have hb6 := hbel.trans (b6.mono hbel.size)
    clear CA b6
    go_wp2
    go_ret
    exact ⟨rfl, hb6⟩
end Go.Proofs.YtgeapgbebbapmaaDoor
