/-
  WALK: the law CheckTypes, over what awake answers; no condition.
-/
import Derived.Test.YtgeapgbebbapmaaLwWant
import Derived.Test.YtgeapgbebbapmaaLw21b
import Derived.Test.YtgeapgbebbapmaaLw21c
namespace Go.Proofs.Ytgeapgbebbapmaa
open Go.RowKit

set_option maxRecDepth 100000 in
set_option maxHeartbeats 16000000 in
theorem law_types (AW : ∀ W : World, Hid (Calls Try.prog 12 #[] W fun e w' => e = .returned (.bool true) ∧ Below W.heap.size W w'))
    (q : Qry) (S : List Sch) (A R O B : Option Addr) (ch cr co cs : Nat) (w : World) (hq : QryIn w q A R O ch cr co) (hs : SchsAt w B S) (hwf : q.wf) (hws : ∀ s ∈ S, s.wf) (hms : S.length ≤ 9223372036854775807) :
    Calls Try.prog 3 #[qryV q A R O ch cr co, .slice B S.length cs] w fun e w' => e = .returned (.bool true) ∧ Below w.heap.size w w' := by
  have HQ := hid hq
  have HS := hid hs
  obtain ⟨⟨e0, ty⟩, hx⟩ : ∃ x, checkT q S = x := ⟨_, rfl⟩
  obtain ⟨bd, hbd⟩ : ∃ x, badB S = x := ⟨_, rfl⟩
  have HBD := hid hbd
  have HFEW : Hid ty.few := hid (by have := checkT_few q S; rw [hx] at this; exact this)
  have C1 := fun W h => hid (law_great q A R O ch cr co W h)
  have C2 := fun W h => hid (law_bad S B cs W h hms hbd)
  have C3 := fun W h1 h2 => hid (chk_check q S A R O B ch cr co cs W h1 h2 hwf hws hms hx)
  have C4 := fun W h1 h2 h3 h4 => hid (law_want q S A R O B ch cr co cs W h1 h2 hwf h3 h4 ((want_eq q S).trans hx))
  obtain ⟨Y, hY, _, _⟩ := nm q.aggVar
  unfold qryV at C1 C3 C4 ⊢
  simp only [hY] at C1 C3 C4 ⊢
  clear hx hbd hs hwf hws hq hY
  obtain ⟨hd, ga, av, rs, os⟩ := q
  simp only at *
  have HB0 : Hid (Below (w.heap.size + 1) (w.alloc (.cells #[.slice A hd.length ch, .int .i64 ga, .string Y, .slice R rs.length cr, .slice O os.length co] 26)) (w.alloc (.cells #[.slice A hd.length ch, .int .i64 ga, .string Y, .slice R rs.length cr, .slice O os.length co] 26))) := hid (Below.refl _ _)
  have hb0 := (qry_cells HB0.out).2.2.2.2.2.2
  go_enter Try.func3, Try.ntmps3
  go_wp2_with fail
  refine (C1 _ (HQ.out.below hb0)).out.mono ?_
  rintro e w2 ⟨hsb, b2⟩
  obtain ⟨bg, rfl⟩ := hsb
  have HB2 := hid (HB0.out.trans (b2.mono (by simp)))
  clear C1 b2 HB0 hb0
  obtain ⟨q0, q1, q2, q3, q4, qlt, hbel⟩ := qry_cells HB2.out
  cases bg with
  | true =>
    go_wp2_with fail
    refine (AW _).out.mono ?_
    rintro e w9 ⟨rfl, b9⟩
    have hb9 := hbel.trans (b9.mono hbel.size)
    clear b9
    go_wp2
    go_ret
    exact ⟨rfl, hb9⟩
  | false =>
    go_wp2_with fail
    refine (C2 _ (HS.out.below hbel)).out.mono ?_
    rintro e w3 ⟨rfl, b3⟩
    have HB3 := hid (HB2.out.trans (b3.mono (by have := HB2.out.size; simpa using this)))
    clear C2 b3 HB2 q0 q1 q2 q3 q4 qlt hbel
    obtain ⟨q0, q1, q2, q3, q4, qlt, hbel⟩ := qry_cells HB3.out
    cases bd with
    | true =>
      go_wp2_with fail
      refine (AW _).out.mono ?_
      rintro e w9 ⟨rfl, b9⟩
      have hb9 := hbel.trans (b9.mono hbel.size)
      clear b9
      go_wp2
      go_ret
      exact ⟨rfl, hb9⟩
    | false =>
      go_wp2_with fail
      refine (C3 _ (HQ.out.below hbel) (HS.out.below hbel)).out.mono ?_
      rintro e w4 ⟨H2, R2, c2, c3, rfl, k2, v2, _, _, b4⟩
      clear C3 q0 q1 q2 q3 q4 qlt
      have hb5 := b4.trans ((below_one w4 (.cells #[.slice H2 ty.head.length c2, .slice R2 ty.rules.length c3] 34)).mono b4.size)
      have HB5 := hid (HB3.out.trans (hb5.mono (by have := HB3.out.size; simpa using this)))
      have K2 := hid (k2.below (below_one w4 (.cells #[.slice H2 ty.head.length c2, .slice R2 ty.rules.length c3] 34)))
      have V2 := hid (v2.below (below_one w4 (.cells #[.slice H2 ty.head.length c2, .slice R2 ty.rules.length c3] 34)))
      have HT := hid (heap_alloc_new w4 (.cells #[.slice H2 ty.head.length c2, .slice R2 ty.rules.length c3] 34))
      clear k2 v2 b4 hb5 HB3 hbel
      go_upto_region 4 with fail
      generalize (w4.alloc (.cells #[.slice H2 ty.head.length c2, .slice R2 ty.rules.length c3] 34)) = w5 at *
      generalize w4.heap.size = g5 at *
      obtain ⟨q0, q1, q2, q3, q4, qlt, hbel⟩ := qry_cells HB5.out
      go_wp2_with fail
      refine (C4 _ (HQ.out.below hbel) (HS.out.below hbel) (badB_len HBD.out) (badB_kinds HBD.out)).out.mono ?_
      rintro e w6 ⟨H6, R6, c6, d6, rfl, k6, v6, b6⟩
      simp only at k6 v6
      have t5 := res_keep' HT.out b6 (lt_of_block HT.out)
      have t0 := cell_of_heap (o := 0) (v := .slice H2 ty.head.length c2) t5 rfl
      have t1 := cell_of_heap (o := 1) (v := .slice R2 ty.rules.length c3) t5 rfl
      have tl := lt_of_block t5
      have C5 := hid (law_same ty.head ty.head ty.rules ty.rules H2 R2 H6 R6 c2 c3 c6 d6 w6 (K2.out.below b6) (V2.out.below b6) k6 v6 HFEW.out.h HFEW.out.r HFEW.out.h HFEW.out.r HFEW.out.v HFEW.out.v (b := true) (by simp))
      have hbk := hbel.trans (b6.mono hbel.size)
      clear C4 k6 v6 b6 t5 q0 q1 q2 q3 q4 qlt hbel K2 V2 HT HB5
      go_wp2_with fail
      refine C5.out.mono ?_
      rintro e w7 ⟨rfl, b7⟩
      have hbk2 := hbk.trans (b7.mono hbk.size)
      clear C5 b7 t0 t1 tl hbk
      go_wp2_with fail
      refine (AW _).out.mono ?_
      rintro e w9 ⟨rfl, b9⟩
      have hb9 := hbk2.trans (b9.mono hbk2.size)
      clear b9
      go_wp2
      go_ret
      exact ⟨rfl, hb9⟩
end Go.Proofs.Ytgeapgbebbapmaa
