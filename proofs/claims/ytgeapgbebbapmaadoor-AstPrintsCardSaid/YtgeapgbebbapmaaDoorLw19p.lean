/-
  WALK: the law AstPrints.
-/
import Derived.Test.YtgeapgbebbapmaaDoorAw19
import Derived.Test.YtgeapgbebbapmaaDoorTx5
namespace Go.Proofs.YtgeapgbebbapmaaDoor
open Go.RowKit

set_option maxRecDepth 100000 in
set_option maxHeartbeats 4000000 in
theorem law_prints19 (q : Qry) (A R O : Option Addr) (ch cr co : Nat) (w : World) (hq : QryIn w q A R O ch cr co) (hwf : q.wf) (htab : Tab w) :
    Calls Tryd.prog 4 #[qryV q A R O ch cr co] w fun e w' => e = .returned (.bool true) ∧ Below w.heap.size w w' := by
  obtain ⟨y, ey⟩ : ∃ y, checkQ q = y := ⟨_, rfl⟩
  obtain ⟨px, ep⟩ : ∃ p, printQ q = p := ⟨_, rfl⟩
  have hp : px = if y = 0 then (textQ q, 0) else ([], y) := by rw [← ep, ← ey]; rfl
  have CG := fun W h => hid (law_great19 q A R O ch cr co W h)
  have C1 := fun W h ht => hid (ast_print q A R O ch cr co W h hwf ht ep)
  have C2 := fun W h => hid (ref_check19 q A R O ch cr co W h ey)
  have C3 := fun (h0 : y = 0) W h => hid (ref_text19 q A R O ch cr co W h (txt_ok (ey.trans h0) hwf) rfl)
  obtain ⟨tq, etq⟩ : ∃ t, textQ q = t := ⟨_, rfl⟩
  rw [etq] at C3 hp
  have HQ := hid hq
  have HT := hid htab
  have HP := hid hp
  obtain ⟨Y, hY⟩ : ∃ Y : ByteArray, (⟨q.aggVar.toArray⟩ : ByteArray) = Y := ⟨_, rfl⟩
  unfold qryV at CG C1 C2 C3 ⊢
  rw [hY] at CG C1 C2 C3 ⊢
  have HB0 : Hid (Below (w.heap.size + 1) (w.alloc (.cells #[.slice A q.head.length ch, .int .i64 q.agg, .string Y, .slice R q.rules.length cr, .slice O q.order.length co] 26)) (w.alloc (.cells #[.slice A q.head.length ch, .int .i64 q.agg, .string Y, .slice R q.rules.length cr, .slice O q.order.length co] 26))) := hid (Below.refl _ _)
  obtain ⟨_, _, _, _, _, qlt, hbel⟩ := qry_cells HB0.out
  clear hY hq ey htab hwf ep etq hp
  go_enter Tryd.func4, Tryd.ntmps4
  go_wp2_with fail
  refine (CG _ (HQ.out.below hbel)).out.mono ?_
  rintro e w1 ⟨bg, rfl, b1⟩
  have HB1 := hid (HB0.out.trans (b1.mono (by simp)))
  clear CG b1 HB0 hbel qlt
  obtain ⟨q0, q1, q2, q3, q4, qlt, hbel⟩ := qry_cells HB1.out
  cases bg
  · go_wp2_with fail
    refine (C1 _ (HQ.out.below hbel) (HT.out.below hbel)).out.mono ?_
    rintro e w2 ⟨rfl, b2⟩
    have HB2 := hid (HB1.out.trans (b2.mono (by omega)))
    clear C1 b2 HB1 q0 q1 q2 q3 q4 qlt hbel
    obtain ⟨q0, q1, q2, q3, q4, qlt, hbel⟩ := qry_cells HB2.out
    go_wp2_with fail
    refine (C2 _ (HQ.out.below hbel)).out.mono ?_
    rintro e w3 ⟨rfl, b3⟩
    have HB3 := hid (HB2.out.trans (b3.mono (by omega)))
    clear C2 b3 HB2 q0 q1 q2 q3 q4 qlt hbel
    obtain ⟨q0, q1, q2, q3, q4, qlt, hbel⟩ := qry_cells HB3.out
    by_cases hy : y = 0
    · have hp := HP.out
      rw [if_pos hy] at hp
      subst hp
      subst hy
      have C4 := C3 rfl
      obtain ⟨S, hS⟩ : ∃ S : ByteArray, (⟨tq.toArray⟩ : ByteArray) = S := ⟨_, rfl⟩
      rw [hS] at C4
      simp only [hS]
      have HS : Hid ((S.toList == S.toList) = true) := hid (by simp)
      clear C3 hS HP
      go_wp2_with fail
      refine (C4 _ (HQ.out.below hbel)).out.mono ?_
      rintro e w4 ⟨rfl, b4⟩
      have HB4 := hid (HB3.out.trans (b4.mono (by omega)))
      have hb4 := (qry_cells HB4.out).2.2.2.2.2.2
      have CA := hid (law_awake19 w4 (HT.out.below hb4))
      clear C4 b4 HB3 q0 q1 q2 q3 q4 qlt hbel HB4
      have hss := HS.out
      go_wp2_with fail
      refine CA.out.mono ?_
      rintro e w5 ⟨rfl, b5⟩
      have hb := hb4.trans (b5.mono hb4.size)
      clear CA b5
      go_wp2
      go_ret
      exact ⟨rfl, hb⟩
    · have hp := HP.out
      rw [if_neg hy] at hp
      subst hp
      have by1 : (y != 0) = true := by simpa using hy
      have hb4 := hbel
      have CA := hid (law_awake19 w3 (HT.out.below hb4))
      clear C3 HP hy q0 q1 q2 q3 q4 qlt hbel HB3
      go_wp2_with fail
      refine CA.out.mono ?_
      rintro e w5 ⟨rfl, b5⟩
      have hb := hb4.trans (b5.mono hb4.size)
      clear CA b5
      go_wp2
      go_ret
      exact ⟨rfl, hb⟩
  · have CA := hid (law_awake19 w1 (HT.out.below hbel))
    clear C1 C2 C3 HB1 HQ HT q0 q1 q2 q3 q4
    go_wp2_with fail
    refine CA.out.mono ?_
    rintro e w2 ⟨rfl, b2⟩
    have hb := hbel.trans (b2.mono hbel.size)
    clear CA b2
    go_wp2
    go_ret
    exact ⟨rfl, hb⟩
end Go.Proofs.YtgeapgbebbapmaaDoor
