/-
  PARTS of a claim, merged by segs.py: PgN.
-/
import Derived.Test.YtnbacdmlaedppaaGreatDoorQ37
import Derived.Test.YtnbacdmlaedppaaGreatDoorQ48
import Derived.Test.YtnbacdmlaedppaaGreatDoorQ49
import Derived.Test.YtnbacdmlaedppaaGreatDoorQ44
import Derived.Deep.RegionHeld3
namespace Go.Proofs.YtnbacdmlaedppaaGreatDoor

/-! ### PgN -/
section
open Go.RowKit

theorem parseP_zero {t : List Tok × Int × Int} {q : Qry} {a : Int} (h : parseP t = (q, a, 0)) : checkQ q = 0 := by
  unfold parseP at h
  by_cases h1 : t.2.2 = 0
  · rw [if_pos h1] at h
    by_cases h2 : (gramQ t.1).2.2 = 0
    · rw [if_pos h2] at h
      by_cases h3 : checkQ (gramQ t.1).1 = 0
      · rw [if_pos h3] at h
        have := congrArg Prod.fst h
        rw [← show (gramQ t.1).1 = q from this]
        exact h3
      · rw [if_neg h3] at h
        have := congrArg (fun x : Qry × Int × Int => x.2.2) h
        exact absurd this h3
    · rw [if_neg h2] at h
      have := congrArg (fun x : Qry × Int × Int => x.2.2) h
      exact absurd this h2
  · rw [if_neg h1] at h
    have := congrArg (fun x : Qry × Int × Int => x.2.2) h
    exact absurd this h1
theorem parse_back {q : Qry} (h : checkQ q = 0) (hw : q.wf) {T : ByteArray} (hT : ⟨(textQ q).toArray⟩ = T) : T.size ≤ 65536 ∧ parseP (scanL T.data.toList) = (q, 0, 0) := by
  subst hT
  have hl := textQ_le h hw
  obtain ⟨ts, h1, h2⟩ := back_query h hw (by omega)
  refine ⟨by show (textQ q).toArray.size ≤ _; simp; omega, ?_⟩
  show parseP (scanL (textQ q)) = _
  rw [h1]
  unfold parseP
  rw [if_pos rfl, h2, if_pos rfl, if_pos h]

set_option maxRecDepth 100000 in
set_option maxHeartbeats 4000000 in
theorem law_back20 (s : ByteArray) (w : World) (hE : EnvL w) : Calls Tryz.prog 8 #[.string s] w fun e w' => e = .returned (.bool true) ∧ Below w.heap.size w w' := by
  by_cases hs : 800 < s.size
  · have HAw := hid (awake20 w hE)
    have hs1 : (800 : Int) < (s.size : Int) := by omega
    clear hE hs
    go_enter Tryz.func8, Tryz.ntmps8
    go_wp2_with fail
    refine HAw.out.mono ?_
    rintro e w1 ⟨rfl, k1⟩
    clear HAw
    go_wp2
    go_ret
    exact ⟨rfl, k1⟩
  have hs1 : ¬ (800 : Int) < (s.size : Int) := by omega
  obtain ⟨y, hy⟩ : ∃ y, parseP (scanL s.data.toList) = y := ⟨_, rfl⟩
  obtain ⟨q, at_, code⟩ := y
  have HP := hid (prs_parse s w hE (by omega) rfl hy)
  by_cases hc : code = 0
  · subst hc
    have hq0 := parseP_zero hy
    have HE := hid hE
    have HAw := fun W (k : Below w.heap.size w W) => hid (awake20 W (hE.below k))
    clear hE hy
    go_enter Tryz.func8, Tryz.ntmps8
    go_wp2_with fail
    refine HP.out.mono ?_
    rintro e w1 ⟨A1, R1, O1, a1, b1, d1, rfl, i1, f1, k1⟩
    simp only
    obtain ⟨T, hT⟩ : ∃ T : ByteArray, ⟨(textQ q).toArray⟩ = T := ⟨_, rfl⟩
    obtain ⟨hTs, hTp⟩ := parse_back hq0 f1 hT
    have hpr : printQ q = (textQ q, 0) := by unfold printQ; rw [if_pos hq0]
    have x1 := below_one w1 (.cells #[.slice A1 q.head.length a1, .int .i64 q.agg, .string ⟨q.aggVar.toArray⟩, .slice R1 q.rules.length b1, .slice O1 q.order.length d1] 27)
    have h1 := heap_alloc_new w1 (.cells #[.slice A1 q.head.length a1, .int .i64 q.agg, .string ⟨q.aggVar.toArray⟩, .slice R1 q.rules.length b1, .slice O1 q.order.length d1] 27)
    have l1 : w1.heap.size < (w1.alloc (.cells #[.slice A1 q.head.length a1, .int .i64 q.agg, .string ⟨q.aggVar.toArray⟩, .slice R1 q.rules.length b1, .slice O1 q.order.length d1] 27)).heap.size := by simp
    obtain ⟨w2, hw2⟩ : ∃ w2, w1.alloc (.cells #[.slice A1 q.head.length a1, .int .i64 q.agg, .string ⟨q.aggVar.toArray⟩, .slice R1 q.rules.length b1, .slice O1 q.order.length d1] 27) = w2 := ⟨_, rfl⟩
    rw [hw2] at x1 h1 l1
    have HW2 := hid hw2
    have kk := k1.trans (x1.mono k1.size)
    have K2 := hid kk
    have I2 := hid (i1.below x1)
    have G2 := hid h1
    have HPr := hid (ast_print q A1 R1 O1 a1 b1 d1 w2 I2.out f1 (HE.out.below kk).env.tab hpr)
    have c10 := box_cell h1 0
    have c11 := box_cell h1 1
    have c12 := box_cell h1 2
    have c13 := box_cell h1 3
    have c14 := box_cell h1 4
    clear hw2 HP i1 k1 x1 h1 kk hq0
    rw [hT] at HPr
    go_wp2_with (first | rw [HW2.out] | fail)
    refine HPr.out.mono ?_
    rintro e w3 ⟨rfl, k3⟩
    simp only
    have K3 := hid (K2.out.trans (k3.mono K2.out.size))
    have g3 := hid ((k3.block w1.heap.size l1).trans G2.out)
    have I3 := hid (I2.out.below k3)
    have l3 : w1.heap.size < w3.heap.size := Nat.lt_of_lt_of_le l1 k3.size
    have HP2 := hid (prs_parse T w3 (HE.out.below K3.out) hTs rfl hTp)
    clear HPr c10 c11 c12 c13 c14 k3 K2 G2 I2 HW2
    go_wp2_with fail
    refine HP2.out.mono ?_
    rintro e w4 ⟨A2, R2, O2, a2, b2, d2, rfl, i4, f4, k4⟩
    simp only
    have x4 := below_one w4 (.cells #[.slice A2 q.head.length a2, .int .i64 q.agg, .string ⟨q.aggVar.toArray⟩, .slice R2 q.rules.length b2, .slice O2 q.order.length d2] 27)
    have h4 := heap_alloc_new w4 (.cells #[.slice A2 q.head.length a2, .int .i64 q.agg, .string ⟨q.aggVar.toArray⟩, .slice R2 q.rules.length b2, .slice O2 q.order.length d2] 27)
    have l4 : w4.heap.size < (w4.alloc (.cells #[.slice A2 q.head.length a2, .int .i64 q.agg, .string ⟨q.aggVar.toArray⟩, .slice R2 q.rules.length b2, .slice O2 q.order.length d2] 27)).heap.size := by simp
    have l14 : w1.heap.size < w4.heap.size := Nat.lt_of_lt_of_le l3 k4.size
    obtain ⟨w5, hw5⟩ : ∃ w5, w4.alloc (.cells #[.slice A2 q.head.length a2, .int .i64 q.agg, .string ⟨q.aggVar.toArray⟩, .slice R2 q.rules.length b2, .slice O2 q.order.length d2] 27) = w5 := ⟨_, rfl⟩
    rw [hw5] at x4 h4 l4
    have HW5 := hid hw5
    have kk := k4.trans (x4.mono k4.size)
    have K5 := hid (K3.out.trans (kk.mono K3.out.size))
    have I5 := hid (i4.below x4)
    have J5 := hid (I3.out.below kk)
    have G5 := hid h4
    have g5 := hid ((kk.block w1.heap.size l3).trans g3.out)
    have HPr := hid (ast_print q A2 R2 O2 a2 b2 d2 w5 I5.out f4 (HE.out.below K5.out).env.tab hpr)
    have c10 := box_cell h4 0
    have c11 := box_cell h4 1
    have c12 := box_cell h4 2
    have c13 := box_cell h4 3
    have c14 := box_cell h4 4
    clear hw5 HP2 i4 k4 x4 h4 kk K3 I3 g3 hTs hTp
    rw [hT] at HPr
    go_wp2_with (first | rw [HW5.out] | fail)
    refine HPr.out.mono ?_
    rintro e w6 ⟨rfl, k6⟩
    simp only
    have K6 := hid (K5.out.trans (k6.mono K5.out.size))
    have HA := hid (HAw w6 K6.out).out
    have B6 := hid k6
    clear HPr c10 c11 c12 c13 c14 k6 HAw HE K5
    go_wp2_with fail
    refine HA.out.mono ?_
    rintro e w7 ⟨rfl, k7⟩
    have kk := B6.out.trans (k7.mono B6.out.size)
    have K7 := hid (K6.out.trans (k7.mono K6.out.size))
    have HEq := hid (ast_equal q q A2 R2 O2 A1 R1 O1 a2 b2 d2 a1 b1 d1 w7 (I5.out.below kk) (J5.out.below kk) (b := true) ⟨fun _ => rfl, fun _ => rfl⟩)
    have g1 := (kk.block w1.heap.size (by omega)).trans g5.out
    have g2 := (kk.block w4.heap.size l4).trans G5.out
    have c10 := box_cell g1 0
    have c11 := box_cell g1 1
    have c12 := box_cell g1 2
    have c13 := box_cell g1 3
    have c14 := box_cell g1 4
    have c20 := box_cell g2 0
    have c21 := box_cell g2 1
    have c22 := box_cell g2 2
    have c23 := box_cell g2 3
    have c24 := box_cell g2 4
    clear HA k7 kk g1 g2 g5 G5 I5 J5 K6 B6
    go_wp2_with fail
    refine HEq.out.mono ?_
    rintro e w8 ⟨rfl, k8⟩
    have K8 := hid (K7.out.trans (k8.mono K7.out.size))
    clear HEq k8 K7
    go_wp2
    go_ret
    exact ⟨rfl, K8.out⟩
  · have hb0 : (code != 0) = true := by simpa using hc
    have HAw := fun W (k : Below w.heap.size w W) => hid (awake20 W (hE.below k))
    clear hE hy hc
    go_enter Tryz.func8, Tryz.ntmps8
    go_wp2_with fail
    refine HP.out.mono ?_
    rintro e w1 ⟨A1, R1, O1, a1, b1, d1, rfl, i1, f1, k1⟩
    simp only
    have x1 := below_one w1 (.cells #[.slice A1 q.head.length a1, .int .i64 q.agg, .string ⟨q.aggVar.toArray⟩, .slice R1 q.rules.length b1, .slice O1 q.order.length d1] 27)
    obtain ⟨w2, hw2⟩ : ∃ w2, w1.alloc (.cells #[.slice A1 q.head.length a1, .int .i64 q.agg, .string ⟨q.aggVar.toArray⟩, .slice R1 q.rules.length b1, .slice O1 q.order.length d1] 27) = w2 := ⟨_, rfl⟩
    rw [hw2] at x1
    have HW2 := hid hw2
    have K2 := hid (k1.trans (x1.mono k1.size))
    have HA := hid (HAw w2 K2.out).out
    clear hw2 HP i1 f1 k1 x1 HAw
    go_wp2_with (first | rw [HW2.out] | fail)
    refine HA.out.mono ?_
    rintro e w3 ⟨rfl, k3⟩
    have K3 := hid (K2.out.trans (k3.mono K2.out.size))
    clear HA k3 K2
    go_wp2
    go_ret
    exact ⟨rfl, K3.out⟩
end
end Go.Proofs.YtnbacdmlaedppaaGreatDoor
