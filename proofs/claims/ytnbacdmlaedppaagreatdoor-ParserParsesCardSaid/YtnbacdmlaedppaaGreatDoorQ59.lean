/-
  PARTS of a claim, merged by segs.py: PgL.
-/
import Derived.Test.YtnbacdmlaedppaaGreatDoorQ37
import Derived.Test.YtnbacdmlaedppaaGreatDoorQ42
import Derived.Test.YtnbacdmlaedppaaGreatDoorQ44
namespace Go.Proofs.YtnbacdmlaedppaaGreatDoor

/-! ### PgL -/
section
open Go.RowKit

theorem parse_rel (t : List Tok × Int × Int) : parseP t = if (parseQ [] t).2.2 = 0 then (if checkQ (parseQ [] t).1 = 0 then ((parseQ [] t).1, 0, 0) else (Q0, 0, checkQ (parseQ [] t).1)) else (Q0, (parseQ [] t).2.1, (parseQ [] t).2.2) := by
  unfold parseP parseQ
  by_cases h : t.2.2 = 0
  · rw [if_pos h, if_pos h]
    by_cases h2 : (gramQ t.1).2.2 = 0
    · rw [if_pos h2, if_pos h2]
    · rw [if_neg h2, if_neg h2]
      unfold gramQ at h2 ⊢
      generalize fullS (tkL t.1) (queryS (tkL t.1) t.1.length) = o at h2 ⊢
      cases o with
      | bad e => rfl
      | ok q n => exact absurd rfl h2
  · rw [if_neg h, if_neg h, if_neg h]
theorem parseQ_pos (t : List Tok × Int × Int) (h : (parseQ [] t).2.2 = 0) : (parseQ [] t).2.1 = 0 := by
  unfold parseQ at h ⊢
  by_cases h1 : t.2.2 = 0
  · rw [if_pos h1] at h ⊢
    unfold gramQ at h ⊢
    generalize fullS (tkL t.1) (queryS (tkL t.1) t.1.length) = o at h ⊢
    cases o with
    | bad e => exact absurd (show (21 : Int) = 0 from h) (by decide)
    | ok q n => rfl
  · rw [if_neg h1] at h
    exact absurd h h1

set_option maxRecDepth 100000 in
set_option maxHeartbeats 4000000 in
theorem law_parses (s : ByteArray) (w : World) (hE : EnvL w) : Calls Tryz.prog 3 #[.string s] w fun e w' => e = .returned (.bool true) ∧ Below w.heap.size w w' := by
  by_cases hs : 800 < s.size
  · have HAw := hid (awake20 w hE)
    have hs1 : (800 : Int) < (s.size : Int) := by omega
    clear hE hs
    go_enter Tryz.func3, Tryz.ntmps3
    go_wp2_with fail
    refine HAw.out.mono ?_
    rintro e w1 ⟨rfl, k1⟩
    clear HAw
    go_wp2
    go_ret
    exact ⟨rfl, k1⟩
  have hs1 : ¬ (800 : Int) < (s.size : Int) := by omega
  obtain ⟨y, hy⟩ : ∃ y, parseQ [] (scanL s.data.toList) = y := ⟨_, rfl⟩
  have hrel := parse_rel (scanL s.data.toList)
  have hpos := parseQ_pos (scanL s.data.toList)
  rw [hy] at hrel hpos
  obtain ⟨q, at_, code⟩ := y
  simp only at hrel hpos
  by_cases hc : code = 0
  · subst hc
    obtain rfl := hpos rfl
    rw [if_pos rfl] at hrel
    obtain ⟨f, hf⟩ : ∃ f, checkQ q = f := ⟨_, rfl⟩
    rw [hf] at hrel
    by_cases h0 : f = 0
    · subst h0
      rw [if_pos rfl] at hrel
      have hx := hrel
      clear hrel hpos
      have HP := hid (prs_parse s w hE (by omega) rfl hx)
      have HR := fun W (_ : Below w.heap.size w W) => hid (ref_parse20 s W (by omega) rfl hy)
      have HAw := fun W (k : Below w.heap.size w W) => hid (awake20 W (hE.below k))
      clear hE hx hy
      go_enter Tryz.func3, Tryz.ntmps3
      go_wp2_with fail
      refine HP.out.mono ?_
      rintro e w1 ⟨A1, R1, O1, a1, b1, d1, rfl, i1, f1, k1⟩
      simp only
      have x1 := below_one w1 (.cells #[.slice A1 q.head.length a1, .int .i64 q.agg, .string ⟨q.aggVar.toArray⟩, .slice R1 q.rules.length b1, .slice O1 q.order.length d1] 27)
      have h1 := heap_alloc_new w1 (.cells #[.slice A1 q.head.length a1, .int .i64 q.agg, .string ⟨q.aggVar.toArray⟩, .slice R1 q.rules.length b1, .slice O1 q.order.length d1] 27)
      have K1 := hid (k1.trans (x1.mono k1.size))
      have I1 := hid (i1.below x1)
      have G1 := hid h1
      have HR1 := hid (HR _ K1.out).out
      have l1 : w1.heap.size < (w1.alloc (.cells #[.slice A1 q.head.length a1, .int .i64 q.agg, .string ⟨q.aggVar.toArray⟩, .slice R1 q.rules.length b1, .slice O1 q.order.length d1] 27)).heap.size := by simp
      clear HP HR k1 x1 h1 i1
      go_wp2_with fail
      refine HR1.out.mono ?_
      rintro e w2 ⟨A2, R2, O2, a2, b2, d2, rfl, i2, f2, k2⟩
      simp only
      have x2 := below_one w2 (.cells #[.slice A2 q.head.length a2, .int .i64 q.agg, .string ⟨q.aggVar.toArray⟩, .slice R2 q.rules.length b2, .slice O2 q.order.length d2] 27)
      have h2 := heap_alloc_new w2 (.cells #[.slice A2 q.head.length a2, .int .i64 q.agg, .string ⟨q.aggVar.toArray⟩, .slice R2 q.rules.length b2, .slice O2 q.order.length d2] 27)
      have kk := k2.trans (x2.mono k2.size)
      have K2 := hid (K1.out.trans (kk.mono K1.out.size))
      have I2 := hid (i2.below x2)
      have J1 := hid (I1.out.below kk)
      have G2 := hid h2
      have g1 := (kk.block w1.heap.size l1).trans G1.out
      have G1' := hid g1
      have l2 : w2.heap.size < (w2.alloc (.cells #[.slice A2 q.head.length a2, .int .i64 q.agg, .string ⟨q.aggVar.toArray⟩, .slice R2 q.rules.length b2, .slice O2 q.order.length d2] 27)).heap.size := by simp
      have l12 : w1.heap.size < w2.heap.size := Nat.lt_of_lt_of_le l1 k2.size
      obtain ⟨w3, hw3⟩ : ∃ w3, w2.alloc (.cells #[.slice A2 q.head.length a2, .int .i64 q.agg, .string ⟨q.aggVar.toArray⟩, .slice R2 q.rules.length b2, .slice O2 q.order.length d2] 27) = w3 := ⟨_, rfl⟩
      rw [hw3] at K2 I2 J1 G2 G1' l2
      have HW3 := hid hw3
      clear HR1 k2 x2 h2 i2 kk g1 G1 I1 K1 hw3
      have HCk := hid (ast_check q A2 R2 O2 a2 b2 d2 w3 I2.out f2 hf)
      have c20 := box_cell G2.out 0
      have c21 := box_cell G2.out 1
      have c22 := box_cell G2.out 2
      have c23 := box_cell G2.out 3
      have c24 := box_cell G2.out 4
      clear hf
      go_wp2_with (first | rw [HW3.out] | fail)
      refine HCk.out.mono ?_
      rintro e w4 ⟨rfl, k4⟩
      have K4 := hid (K2.out.trans (k4.mono K2.out.size))
      have HA := hid (HAw w4 K4.out).out
      have B4 := hid k4
      clear HCk c20 c21 c22 c23 c24 k4 HAw
      go_wp2_with fail
      refine HA.out.mono ?_
      rintro e w5 ⟨rfl, k5⟩
      have kk := B4.out.trans (k5.mono B4.out.size)
      have K5 := hid (K4.out.trans (k5.mono K4.out.size))
      have HEq := hid (ast_equal q q A1 R1 O1 A2 R2 O2 a1 b1 d1 a2 b2 d2 w5 (J1.out.below kk) (I2.out.below kk) (b := true) ⟨fun _ => rfl, fun _ => rfl⟩)
      have g1 := (kk.block w1.heap.size (by omega)).trans G1'.out
      have g2 := (kk.block w2.heap.size l2).trans G2.out
      have c10 := box_cell g1 0
      have c11 := box_cell g1 1
      have c12 := box_cell g1 2
      have c13 := box_cell g1 3
      have c14 := box_cell g1 4
      have c20 := box_cell g2 0
      have c21 := box_cell g2 1
      have c22 := box_cell g2 2
      have c23 := box_cell g2 3
      have c24 := box_cell g2 4
      clear HA k5 kk g1 g2 G1' G2 I2 J1 K2 K4 B4
      go_wp2_with fail
      refine HEq.out.mono ?_
      rintro e w6 ⟨rfl, k6⟩
      have K6 := hid (K5.out.trans (k6.mono K5.out.size))
      clear HEq k6 K5
      go_wp2
      go_ret
      exact ⟨rfl, K6.out⟩
    · have hx : parseP (scanL s.data.toList) = (Q0, 0, f) := by rw [hrel, if_neg h0]
      have hb0 : (f != 0) = true := by simpa using h0
      clear hrel hpos h0
      have HP := hid (prs_parse s w hE (by omega) rfl hx)
      have HR := fun W (_ : Below w.heap.size w W) => hid (ref_parse20 s W (by omega) rfl hy)
      have HAw := fun W (k : Below w.heap.size w W) => hid (awake20 W (hE.below k))
      clear hE hx hy
      go_enter Tryz.func3, Tryz.ntmps3
      go_wp2_with fail
      refine HP.out.mono ?_
      rintro e w1 ⟨A1, R1, O1, a1, b1, d1, rfl, i1, f1, k1⟩
      simp only
      have x1 := below_one w1 (.cells #[.slice A1 Q0.head.length a1, .int .i64 Q0.agg, .string ⟨Q0.aggVar.toArray⟩, .slice R1 Q0.rules.length b1, .slice O1 Q0.order.length d1] 27)
      have h1 := heap_alloc_new w1 (.cells #[.slice A1 Q0.head.length a1, .int .i64 Q0.agg, .string ⟨Q0.aggVar.toArray⟩, .slice R1 Q0.rules.length b1, .slice O1 Q0.order.length d1] 27)
      have K1 := hid (k1.trans (x1.mono k1.size))
      have I1 := hid (i1.below x1)
      have G1 := hid h1
      have HR1 := hid (HR _ K1.out).out
      have l1 : w1.heap.size < (w1.alloc (.cells #[.slice A1 Q0.head.length a1, .int .i64 Q0.agg, .string ⟨Q0.aggVar.toArray⟩, .slice R1 Q0.rules.length b1, .slice O1 Q0.order.length d1] 27)).heap.size := by simp
      clear HP HR k1 x1 h1 i1
      go_wp2_with fail
      refine HR1.out.mono ?_
      rintro e w2 ⟨A2, R2, O2, a2, b2, d2, rfl, i2, f2, k2⟩
      simp only
      have x2 := below_one w2 (.cells #[.slice A2 q.head.length a2, .int .i64 q.agg, .string ⟨q.aggVar.toArray⟩, .slice R2 q.rules.length b2, .slice O2 q.order.length d2] 27)
      have h2 := heap_alloc_new w2 (.cells #[.slice A2 q.head.length a2, .int .i64 q.agg, .string ⟨q.aggVar.toArray⟩, .slice R2 q.rules.length b2, .slice O2 q.order.length d2] 27)
      have kk := k2.trans (x2.mono k2.size)
      have K2 := hid (K1.out.trans (kk.mono K1.out.size))
      have I2 := hid (i2.below x2)
      have J1 := hid (I1.out.below kk)
      have G2 := hid h2
      have g1 := (kk.block w1.heap.size l1).trans G1.out
      have G1' := hid g1
      have l2 : w2.heap.size < (w2.alloc (.cells #[.slice A2 q.head.length a2, .int .i64 q.agg, .string ⟨q.aggVar.toArray⟩, .slice R2 q.rules.length b2, .slice O2 q.order.length d2] 27)).heap.size := by simp
      have l12 : w1.heap.size < w2.heap.size := Nat.lt_of_lt_of_le l1 k2.size
      obtain ⟨w3, hw3⟩ : ∃ w3, w2.alloc (.cells #[.slice A2 q.head.length a2, .int .i64 q.agg, .string ⟨q.aggVar.toArray⟩, .slice R2 q.rules.length b2, .slice O2 q.order.length d2] 27) = w3 := ⟨_, rfl⟩
      rw [hw3] at K2 I2 J1 G2 G1' l2
      have HW3 := hid hw3
      clear HR1 k2 x2 h2 i2 kk g1 G1 I1 K1 hw3
      have HCk := hid (ast_check q A2 R2 O2 a2 b2 d2 w3 I2.out f2 hf)
      have c20 := box_cell G2.out 0
      have c21 := box_cell G2.out 1
      have c22 := box_cell G2.out 2
      have c23 := box_cell G2.out 3
      have c24 := box_cell G2.out 4
      clear hf
      go_wp2_with (first | rw [HW3.out] | fail)
      refine HCk.out.mono ?_
      rintro e w4 ⟨rfl, k4⟩
      have K4 := hid (K2.out.trans (k4.mono K2.out.size))
      have HA := hid (HAw w4 K4.out).out
      have B4 := hid k4
      clear HCk c20 c21 c22 c23 c24 k4 HAw
      go_wp2_with fail
      refine HA.out.mono ?_
      rintro e w5 ⟨rfl, k5⟩
      have kk := B4.out.trans (k5.mono B4.out.size)
      have K5 := hid (K4.out.trans (k5.mono K4.out.size))
      have HEq := hid (ast_equal Q0 Q0 A1 R1 O1 none none none a1 b1 d1 0 0 0 w5 (J1.out.below kk) (Q0_in w5) (b := true) ⟨fun _ => rfl, fun _ => rfl⟩)
      have g1 := (kk.block w1.heap.size (by omega)).trans G1'.out
      have c10 := box_cell g1 0
      have c11 := box_cell g1 1
      have c12 := box_cell g1 2
      have c13 := box_cell g1 3
      have c14 := box_cell g1 4
      clear HA k5 kk g1 G1' G2 I2 J1 K2 K4 B4
      go_wp2_with fail
      refine HEq.out.mono ?_
      rintro e w6 ⟨rfl, k6⟩
      have K6 := hid (K5.out.trans (k6.mono K5.out.size))
      clear HEq k6 K5
      go_wp2
      go_ret
      exact ⟨rfl, K6.out⟩
  · rw [if_neg hc] at hrel
    have hx := hrel
    have hb0 : (code != 0) = true := by simpa using hc
    clear hrel hpos hc
    have HP := hid (prs_parse s w hE (by omega) rfl hx)
    have HR := fun W (_ : Below w.heap.size w W) => hid (ref_parse20 s W (by omega) rfl hy)
    have HAw := fun W (k : Below w.heap.size w W) => hid (awake20 W (hE.below k))
    clear hE hx hy
    go_enter Tryz.func3, Tryz.ntmps3
    go_wp2_with fail
    refine HP.out.mono ?_
    rintro e w1 ⟨A1, R1, O1, a1, b1, d1, rfl, i1, f1, k1⟩
    simp only
    have x1 := below_one w1 (.cells #[.slice A1 Q0.head.length a1, .int .i64 Q0.agg, .string ⟨Q0.aggVar.toArray⟩, .slice R1 Q0.rules.length b1, .slice O1 Q0.order.length d1] 27)
    have h1 := heap_alloc_new w1 (.cells #[.slice A1 Q0.head.length a1, .int .i64 Q0.agg, .string ⟨Q0.aggVar.toArray⟩, .slice R1 Q0.rules.length b1, .slice O1 Q0.order.length d1] 27)
    have K1 := hid (k1.trans (x1.mono k1.size))
    have I1 := hid (i1.below x1)
    have G1 := hid h1
    have HR1 := hid (HR _ K1.out).out
    have l1 : w1.heap.size < (w1.alloc (.cells #[.slice A1 Q0.head.length a1, .int .i64 Q0.agg, .string ⟨Q0.aggVar.toArray⟩, .slice R1 Q0.rules.length b1, .slice O1 Q0.order.length d1] 27)).heap.size := by simp
    clear HP HR k1 x1 h1 i1
    go_wp2_with fail
    refine HR1.out.mono ?_
    rintro e w2 ⟨A2, R2, O2, a2, b2, d2, rfl, i2, f2, k2⟩
    simp only
    have x2 := below_one w2 (.cells #[.slice A2 q.head.length a2, .int .i64 q.agg, .string ⟨q.aggVar.toArray⟩, .slice R2 q.rules.length b2, .slice O2 q.order.length d2] 27)
    have h2 := heap_alloc_new w2 (.cells #[.slice A2 q.head.length a2, .int .i64 q.agg, .string ⟨q.aggVar.toArray⟩, .slice R2 q.rules.length b2, .slice O2 q.order.length d2] 27)
    have kk := k2.trans (x2.mono k2.size)
    have K2 := hid (K1.out.trans (kk.mono K1.out.size))
    have I2 := hid (i2.below x2)
    have J1 := hid (I1.out.below kk)
    have G2 := hid h2
    have g1 := (kk.block w1.heap.size l1).trans G1.out
    have G1' := hid g1
    have l2 : w2.heap.size < (w2.alloc (.cells #[.slice A2 q.head.length a2, .int .i64 q.agg, .string ⟨q.aggVar.toArray⟩, .slice R2 q.rules.length b2, .slice O2 q.order.length d2] 27)).heap.size := by simp
    have l12 : w1.heap.size < w2.heap.size := Nat.lt_of_lt_of_le l1 k2.size
    obtain ⟨w3, hw3⟩ : ∃ w3, w2.alloc (.cells #[.slice A2 q.head.length a2, .int .i64 q.agg, .string ⟨q.aggVar.toArray⟩, .slice R2 q.rules.length b2, .slice O2 q.order.length d2] 27) = w3 := ⟨_, rfl⟩
    rw [hw3] at K2 I2 J1 G2 G1' l2
    have HW3 := hid hw3
    clear HR1 k2 x2 h2 i2 kk g1 G1 I1 K1 hw3
    have HA := hid (HAw w3 K2.out).out
    have K4 := K2
    have B4 := hid (Below.refl w3.heap.size w3)
    clear HAw
    go_wp2_with (first | rw [HW3.out] | fail)
    refine HA.out.mono ?_
    rintro e w5 ⟨rfl, k5⟩
    have kk := B4.out.trans (k5.mono B4.out.size)
    have K5 := hid (K4.out.trans (k5.mono K4.out.size))
    have HEq := hid (ast_equal Q0 Q0 A1 R1 O1 none none none a1 b1 d1 0 0 0 w5 (J1.out.below kk) (Q0_in w5) (b := true) ⟨fun _ => rfl, fun _ => rfl⟩)
    have g1 := (kk.block w1.heap.size (by omega)).trans G1'.out
    have c10 := box_cell g1 0
    have c11 := box_cell g1 1
    have c12 := box_cell g1 2
    have c13 := box_cell g1 3
    have c14 := box_cell g1 4
    clear HA k5 kk g1 G1' G2 I2 J1 K2 K4 B4
    go_wp2_with fail
    refine HEq.out.mono ?_
    rintro e w6 ⟨rfl, k6⟩
    have K6 := hid (K5.out.trans (k6.mono K5.out.size))
    clear HEq k6 K5
    go_wp2
    go_ret
    exact ⟨rfl, K6.out⟩
end
end Go.Proofs.YtnbacdmlaedppaaGreatDoor
