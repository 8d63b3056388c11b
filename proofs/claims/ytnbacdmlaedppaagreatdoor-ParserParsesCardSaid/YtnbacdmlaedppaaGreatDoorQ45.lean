/-
  PARTS of a claim, merged by segs.py: PgL, Laid2, Laid3.
-/
import Derived.Test.YtnbacdmlaedppaaGreatDoorQ37
import Derived.Test.YtnbacdmlaedppaaGreatDoorQ42
import Derived.Test.YtnbacdmlaedppaaGreatDoorQ44
import Derived.Test.YtnbacdmlaedppaaGreatDoorQ07
import Derived.Test.YtnbacdmlaedppaaGreatDoorQ15
import Derived.Test.YtnbacdmlaedppaaGreatDoorQ32
import Derived.Stop.LaidErr
import Derived.Lay
import Derived.Deep.DeepHandedRow
namespace Go.Proofs.YtnbacdmlaedppaaGreatDoor

/-! ### PgL -/
section
open Go.RowKit

theorem parse_rel (t : List Tok × Int × Int) : parseP t = if (parseQ [] t).2.2 = 0 then (if checkQ (parseQ [] t).1 = 0 then ((parseQ [] t).1, 0, 0) else (Q0, 0, checkQ (parseQ [] t).1)) else (Q0, (parseQ [] t).2.1, (parseQ [] t).2.2) := by
  unfold parseP parseQ
  by_cases h : t.2.2 = 0
  · rw [if_pos h, if_pos h]
    by_cases h2 : (gramQ t.1).2.2 = 0
    · rw [if_pos h2, if_pos h2]
    · rw [if_neg h2, if_neg h2]
      unfold gramQ at h2 ⊢
      generalize fullS (tkL t.1) (queryS (tkL t.1) t.1.length) = o at h2 ⊢
      cases o with
      | bad e => rfl
      | ok q n => exact absurd rfl h2
  · rw [if_neg h, if_neg h, if_neg h]
theorem parseQ_pos (t : List Tok × Int × Int) (h : (parseQ [] t).2.2 = 0) : (parseQ [] t).2.1 = 0 := by
  unfold parseQ at h ⊢
  by_cases h1 : t.2.2 = 0
  · rw [if_pos h1] at h ⊢
    unfold gramQ at h ⊢
    generalize fullS (tkL t.1) (queryS (tkL t.1) t.1.length) = o at h ⊢
    cases o with
    | bad e => exact absurd (show (21 : Int) = 0 from h) (by decide)
    | ok q n => rfl
  · rw [if_neg h1] at h
    exact absurd h h1

set_option maxRecDepth 100000 in
set_option maxHeartbeats 4000000 in
theorem law_parses (s : ByteArray) (w : World) (hE : EnvL w) : Calls Tryz.prog 3 #[.string s] w fun e w' => e = .returned (.bool true) ∧ Below w.heap.size w w' := by
  by_cases hs : 800 < s.size
  · have HAw := hid (awake20 w hE)
    have hs1 : (800 : Int) < (s.size : Int) := by omega
    clear hE hs
    go_enter Tryz.func3, Tryz.ntmps3
    go_wp2_with fail
    refine HAw.out.mono ?_
    rintro e w1 ⟨rfl, k1⟩
    clear HAw
    go_wp2
    go_ret
    exact ⟨rfl, k1⟩
  have hs1 : ¬ (800 : Int) < (s.size : Int) := by omega
  obtain ⟨y, hy⟩ : ∃ y, parseQ [] (scanL s.data.toList) = y := ⟨_, rfl⟩
  have hrel := parse_rel (scanL s.data.toList)
  have hpos := parseQ_pos (scanL s.data.toList)
  rw [hy] at hrel hpos
  obtain ⟨q, at_, code⟩ := y
  simp only at hrel hpos
  by_cases hc : code = 0
  · subst hc
    obtain rfl := hpos rfl
    rw [if_pos rfl] at hrel
    obtain ⟨f, hf⟩ : ∃ f, checkQ q = f := ⟨_, rfl⟩
    rw [hf] at hrel
    by_cases h0 : f = 0
    · subst h0
      rw [if_pos rfl] at hrel
      have hx := hrel
      clear hrel hpos
      have HP := hid (prs_parse s w hE (by omega) rfl hx)
      have HR := fun W (_ : Below w.heap.size w W) => hid (ref_parse20 s W (by omega) rfl hy)
      have HAw := fun W (k : Below w.heap.size w W) => hid (awake20 W (hE.below k))
      clear hE hx hy
      go_enter Tryz.func3, Tryz.ntmps3
      go_wp2_with fail
      refine HP.out.mono ?_
      rintro e w1 ⟨A1, R1, O1, a1, b1, d1, rfl, i1, f1, k1⟩
      simp only
      have x1 := below_one w1 (.cells #[.slice A1 q.head.length a1, .int .i64 q.agg, .string ⟨q.aggVar.toArray⟩, .slice R1 q.rules.length b1, .slice O1 q.order.length d1] 27)
      have h1 := heap_alloc_new w1 (.cells #[.slice A1 q.head.length a1, .int .i64 q.agg, .string ⟨q.aggVar.toArray⟩, .slice R1 q.rules.length b1, .slice O1 q.order.length d1] 27)
      have K1 := hid (k1.trans (x1.mono k1.size))
      have I1 := hid (i1.below x1)
      have G1 := hid h1
      have HR1 := hid (HR _ K1.out).out
      have l1 : w1.heap.size < (w1.alloc (.cells #[.slice A1 q.head.length a1, .int .i64 q.agg, .string ⟨q.aggVar.toArray⟩, .slice R1 q.rules.length b1, .slice O1 q.order.length d1] 27)).heap.size := by simp
      clear HP HR k1 x1 h1 i1
      go_wp2_with fail
      refine HR1.out.mono ?_
      rintro e w2 ⟨A2, R2, O2, a2, b2, d2, rfl, i2, f2, k2⟩
      simp only
      have x2 := below_one w2 (.cells #[.slice A2 q.head.length a2, .int .i64 q.agg, .string ⟨q.aggVar.toArray⟩, .slice R2 q.rules.length b2, .slice O2 q.order.length d2] 27)
      have h2 := heap_alloc_new w2 (.cells #[.slice A2 q.head.length a2, .int .i64 q.agg, .string ⟨q.aggVar.toArray⟩, .slice R2 q.rules.length b2, .slice O2 q.order.length d2] 27)
      have kk := k2.trans (x2.mono k2.size)
      have K2 := hid (K1.out.trans (kk.mono K1.out.size))
      have I2 := hid (i2.below x2)
      have J1 := hid (I1.out.below kk)
      have G2 := hid h2
      have g1 := (kk.block w1.heap.size l1).trans G1.out
      have G1' := hid g1
      have l2 : w2.heap.size < (w2.alloc (.cells #[.slice A2 q.head.length a2, .int .i64 q.agg, .string ⟨q.aggVar.toArray⟩, .slice R2 q.rules.length b2, .slice O2 q.order.length d2] 27)).heap.size := by simp
      have l12 : w1.heap.size < w2.heap.size := Nat.lt_of_lt_of_le l1 k2.size
      obtain ⟨w3, hw3⟩ : ∃ w3, w2.alloc (.cells #[.slice A2 q.head.length a2, .int .i64 q.agg, .string ⟨q.aggVar.toArray⟩, .slice R2 q.rules.length b2, .slice O2 q.order.length d2] 27) = w3 := ⟨_, rfl⟩
      rw [hw3] at K2 I2 J1 G2 G1' l2
      have HW3 := hid hw3
      clear HR1 k2 x2 h2 i2 kk g1 G1 I1 K1 hw3
      have HCk := hid (ast_check q A2 R2 O2 a2 b2 d2 w3 I2.out f2 hf)
      have c20 := box_cell G2.out 0
      have c21 := box_cell G2.out 1
      have c22 := box_cell G2.out 2
      have c23 := box_cell G2.out 3
      have c24 := box_cell G2.out 4
      clear hf
      go_wp2_with (first | rw [HW3.out] | fail)
      refine HCk.out.mono ?_
      rintro e w4 ⟨rfl, k4⟩
      have K4 := hid (K2.out.trans (k4.mono K2.out.size))
      have HA := hid (HAw w4 K4.out).out
      have B4 := hid k4
      clear HCk c20 c21 c22 c23 c24 k4 HAw
      go_wp2_with fail
      refine HA.out.mono ?_
      rintro e w5 ⟨rfl, k5⟩
      have kk := B4.out.trans (k5.mono B4.out.size)
      have K5 := hid (K4.out.trans (k5.mono K4.out.size))
      have HEq := hid (ast_equal q q A1 R1 O1 A2 R2 O2 a1 b1 d1 a2 b2 d2 w5 (J1.out.below kk) (I2.out.below kk) (b := true) ⟨fun _ => rfl, fun _ => rfl⟩)
      have g1 := (kk.block w1.heap.size (by omega)).trans G1'.out
      have g2 := (kk.block w2.heap.size l2).trans G2.out
      have c10 := box_cell g1 0
      have c11 := box_cell g1 1
      have c12 := box_cell g1 2
      have c13 := box_cell g1 3
      have c14 := box_cell g1 4
      have c20 := box_cell g2 0
      have c21 := box_cell g2 1
      have c22 := box_cell g2 2
      have c23 := box_cell g2 3
      have c24 := box_cell g2 4
      clear HA k5 kk g1 g2 G1' G2 I2 J1 K2 K4 B4
      go_wp2_with fail
      refine HEq.out.mono ?_
      rintro e w6 ⟨rfl, k6⟩
      have K6 := hid (K5.out.trans (k6.mono K5.out.size))
      clear HEq k6 K5
      go_wp2
      go_ret
      exact ⟨rfl, K6.out⟩
    · have hx : parseP (scanL s.data.toList) = (Q0, 0, f) := by rw [hrel, if_neg h0]
      have hb0 : (f != 0) = true := by simpa using h0
      clear hrel hpos h0
      have HP := hid (prs_parse s w hE (by omega) rfl hx)
      have HR := fun W (_ : Below w.heap.size w W) => hid (ref_parse20 s W (by omega) rfl hy)
      have HAw := fun W (k : Below w.heap.size w W) => hid (awake20 W (hE.below k))
      clear hE hx hy
      go_enter Tryz.func3, Tryz.ntmps3
      go_wp2_with fail
      refine HP.out.mono ?_
      rintro e w1 ⟨A1, R1, O1, a1, b1, d1, rfl, i1, f1, k1⟩
      simp only
      have x1 := below_one w1 (.cells #[.slice A1 Q0.head.length a1, .int .i64 Q0.agg, .string ⟨Q0.aggVar.toArray⟩, .slice R1 Q0.rules.length b1, .slice O1 Q0.order.length d1] 27)
      have h1 := heap_alloc_new w1 (.cells #[.slice A1 Q0.head.length a1, .int .i64 Q0.agg, .string ⟨Q0.aggVar.toArray⟩, .slice R1 Q0.rules.length b1, .slice O1 Q0.order.length d1] 27)
      have K1 := hid (k1.trans (x1.mono k1.size))
      have I1 := hid (i1.below x1)
      have G1 := hid h1
      have HR1 := hid (HR _ K1.out).out
      have l1 : w1.heap.size < (w1.alloc (.cells #[.slice A1 Q0.head.length a1, .int .i64 Q0.agg, .string ⟨Q0.aggVar.toArray⟩, .slice R1 Q0.rules.length b1, .slice O1 Q0.order.length d1] 27)).heap.size := by simp
      clear HP HR k1 x1 h1 i1
      go_wp2_with fail
      refine HR1.out.mono ?_
      rintro e w2 ⟨A2, R2, O2, a2, b2, d2, rfl, i2, f2, k2⟩
      simp only
      have x2 := below_one w2 (.cells #[.slice A2 q.head.length a2, .int .i64 q.agg, .string ⟨q.aggVar.toArray⟩, .slice R2 q.rules.length b2, .slice O2 q.order.length d2] 27)
      have h2 := heap_alloc_new w2 (.cells #[.slice A2 q.head.length a2, .int .i64 q.agg, .string ⟨q.aggVar.toArray⟩, .slice R2 q.rules.length b2, .slice O2 q.order.length d2] 27)
      have kk := k2.trans (x2.mono k2.size)
      have K2 := hid (K1.out.trans (kk.mono K1.out.size))
      have I2 := hid (i2.below x2)
      have J1 := hid (I1.out.below kk)
      have G2 := hid h2
      have g1 := (kk.block w1.heap.size l1).trans G1.out
      have G1' := hid g1
      have l2 : w2.heap.size < (w2.alloc (.cells #[.slice A2 q.head.length a2, .int .i64 q.agg, .string ⟨q.aggVar.toArray⟩, .slice R2 q.rules.length b2, .slice O2 q.order.length d2] 27)).heap.size := by simp
      have l12 : w1.heap.size < w2.heap.size := Nat.lt_of_lt_of_le l1 k2.size
      obtain ⟨w3, hw3⟩ : ∃ w3, w2.alloc (.cells #[.slice A2 q.head.length a2, .int .i64 q.agg, .string ⟨q.aggVar.toArray⟩, .slice R2 q.rules.length b2, .slice O2 q.order.length d2] 27) = w3 := ⟨_, rfl⟩
      rw [hw3] at K2 I2 J1 G2 G1' l2
      have HW3 := hid hw3
      clear HR1 k2 x2 h2 i2 kk g1 G1 I1 K1 hw3
      have HCk := hid (ast_check q A2 R2 O2 a2 b2 d2 w3 I2.out f2 hf)
      have c20 := box_cell G2.out 0
      have c21 := box_cell G2.out 1
      have c22 := box_cell G2.out 2
      have c23 := box_cell G2.out 3
      have c24 := box_cell G2.out 4
      clear hf
      go_wp2_with (first | rw [HW3.out] | fail)
      refine HCk.out.mono ?_
      rintro e w4 ⟨rfl, k4⟩
      have K4 := hid (K2.out.trans (k4.mono K2.out.size))
      have HA := hid (HAw w4 K4.out).out
      have B4 := hid k4
      clear HCk c20 c21 c22 c23 c24 k4 HAw
      go_wp2_with fail
      refine HA.out.mono ?_
      rintro e w5 ⟨rfl, k5⟩
      have kk := B4.out.trans (k5.mono B4.out.size)
      have K5 := hid (K4.out.trans (k5.mono K4.out.size))
      have HEq := hid (ast_equal Q0 Q0 A1 R1 O1 none none none a1 b1 d1 0 0 0 w5 (J1.out.below kk) (Q0_in w5) (b := true) ⟨fun _ => rfl, fun _ => rfl⟩)
      have g1 := (kk.block w1.heap.size (by omega)).trans G1'.out
      have c10 := box_cell g1 0
      have c11 := box_cell g1 1
      have c12 := box_cell g1 2
      have c13 := box_cell g1 3
      have c14 := box_cell g1 4
      clear HA k5 kk g1 G1' G2 I2 J1 K2 K4 B4
      go_wp2_with fail
      refine HEq.out.mono ?_
      rintro e w6 ⟨rfl, k6⟩
      have K6 := hid (K5.out.trans (k6.mono K5.out.size))
      clear HEq k6 K5
      go_wp2
      go_ret
      exact ⟨rfl, K6.out⟩
  · rw [if_neg hc] at hrel
    have hx := hrel
    have hb0 : (code != 0) = true := by simpa using hc
    clear hrel hpos hc
    have HP := hid (prs_parse s w hE (by omega) rfl hx)
    have HR := fun W (_ : Below w.heap.size w W) => hid (ref_parse20 s W (by omega) rfl hy)
    have HAw := fun W (k : Below w.heap.size w W) => hid (awake20 W (hE.below k))
    clear hE hx hy
    go_enter Tryz.func3, Tryz.ntmps3
    go_wp2_with fail
    refine HP.out.mono ?_
    rintro e w1 ⟨A1, R1, O1, a1, b1, d1, rfl, i1, f1, k1⟩
    simp only
    have x1 := below_one w1 (.cells #[.slice A1 Q0.head.length a1, .int .i64 Q0.agg, .string ⟨Q0.aggVar.toArray⟩, .slice R1 Q0.rules.length b1, .slice O1 Q0.order.length d1] 27)
    have h1 := heap_alloc_new w1 (.cells #[.slice A1 Q0.head.length a1, .int .i64 Q0.agg, .string ⟨Q0.aggVar.toArray⟩, .slice R1 Q0.rules.length b1, .slice O1 Q0.order.length d1] 27)
    have K1 := hid (k1.trans (x1.mono k1.size))
    have I1 := hid (i1.below x1)
    have G1 := hid h1
    have HR1 := hid (HR _ K1.out).out
    have l1 : w1.heap.size < (w1.alloc (.cells #[.slice A1 Q0.head.length a1, .int .i64 Q0.agg, .string ⟨Q0.aggVar.toArray⟩, .slice R1 Q0.rules.length b1, .slice O1 Q0.order.length d1] 27)).heap.size := by simp
    clear HP HR k1 x1 h1 i1
    go_wp2_with fail
    refine HR1.out.mono ?_
    rintro e w2 ⟨A2, R2, O2, a2, b2, d2, rfl, i2, f2, k2⟩
    simp only
    have x2 := below_one w2 (.cells #[.slice A2 q.head.length a2, .int .i64 q.agg, .string ⟨q.aggVar.toArray⟩, .slice R2 q.rules.length b2, .slice O2 q.order.length d2] 27)
    have h2 := heap_alloc_new w2 (.cells #[.slice A2 q.head.length a2, .int .i64 q.agg, .string ⟨q.aggVar.toArray⟩, .slice R2 q.rules.length b2, .slice O2 q.order.length d2] 27)
    have kk := k2.trans (x2.mono k2.size)
    have K2 := hid (K1.out.trans (kk.mono K1.out.size))
    have I2 := hid (i2.below x2)
    have J1 := hid (I1.out.below kk)
    have G2 := hid h2
    have g1 := (kk.block w1.heap.size l1).trans G1.out
    have G1' := hid g1
    have l2 : w2.heap.size < (w2.alloc (.cells #[.slice A2 q.head.length a2, .int .i64 q.agg, .string ⟨q.aggVar.toArray⟩, .slice R2 q.rules.length b2, .slice O2 q.order.length d2] 27)).heap.size := by simp
    have l12 : w1.heap.size < w2.heap.size := Nat.lt_of_lt_of_le l1 k2.size
    obtain ⟨w3, hw3⟩ : ∃ w3, w2.alloc (.cells #[.slice A2 q.head.length a2, .int .i64 q.agg, .string ⟨q.aggVar.toArray⟩, .slice R2 q.rules.length b2, .slice O2 q.order.length d2] 27) = w3 := ⟨_, rfl⟩
    rw [hw3] at K2 I2 J1 G2 G1' l2
    have HW3 := hid hw3
    clear HR1 k2 x2 h2 i2 kk g1 G1 I1 K1 hw3
    have HA := hid (HAw w3 K2.out).out
    have K4 := K2
    have B4 := hid (Below.refl w3.heap.size w3)
    clear HAw
    go_wp2_with (first | rw [HW3.out] | fail)
    refine HA.out.mono ?_
    rintro e w5 ⟨rfl, k5⟩
    have kk := B4.out.trans (k5.mono B4.out.size)
    have K5 := hid (K4.out.trans (k5.mono K4.out.size))
    have HEq := hid (ast_equal Q0 Q0 A1 R1 O1 none none none a1 b1 d1 0 0 0 w5 (J1.out.below kk) (Q0_in w5) (b := true) ⟨fun _ => rfl, fun _ => rfl⟩)
    have g1 := (kk.block w1.heap.size (by omega)).trans G1'.out
    have c10 := box_cell g1 0
    have c11 := box_cell g1 1
    have c12 := box_cell g1 2
    have c13 := box_cell g1 3
    have c14 := box_cell g1 4
    clear HA k5 kk g1 G1' G2 I2 J1 K2 K4 B4
    go_wp2_with fail
    refine HEq.out.mono ?_
    rintro e w6 ⟨rfl, k6⟩
    have K6 := hid (K5.out.trans (k6.mono K5.out.size))
    clear HEq k6 K5
    go_wp2
    go_ret
    exact ⟨rfl, K6.out⟩
end

/-! ### Laid2 -/
section
open Go.ChangeShapes Go.WideShapes Go.ChangeAt Go.RowKit Go.Deep

theorem gErr : Tryz.prog.globalNamed "strconv.ErrRange" = some 4 := by kernel_rfl
theorem gErrType : (Tryz.prog.globals[4]?).map (·.type) = some 60 := by kernel_rfl

theorem starErr : "*" ++ "errors.errorString" = "*errors.errorString" := by decide
theorem nameErr (u : TypeId) (h : Tryz.prog.typeName? 3 u = some "*errors.errorString") : u = 210 :=
  typeName_ptr_named (nm := "errors.errorString") (by rw [starErr]; kernel_rfl) (by kernel_rfl) (by decide) u (by rw [starErr]; exact h)

theorem env_of_laid {l : List (String × DataW Unit)} {W : World} {a b c d e : String × DataW Unit} (hl : l = [a, b, c, d, e]) (hd : d = ("strconv.ErrRange", Rows.laid_strconv_ErrRange)) (hm : ("internal/strconv.uint64pow10", Rows.laid_internal_strconv_uint64pow10) ∈ l) (hp : (l.all fun x => x.2.handleName?.isNone) = true) (h : laidMetH Tryz.prog l W) : Env W := by
  refine ⟨tab_of_laid hm hp h, ?_⟩
  rw [MakeChecks.laidMetH_plain _ _ _ hp] at h
  subst hl hd
  obtain ⟨a0, s0, hv, _⟩ := laid_sentinel h.tail.tail.tail gErr gErrType Tryz.underlying60 nameErr Tryz.underlying210 Tryz.underlying212 rfl rfl Tryz.underlying9 (by kernel_rfl) (by kernel_rfl)
  exact ⟨_, _, by simpa using World.var?_cell gErr hv 0⟩

set_option maxRecDepth 100000 in
/-- A value that came in. -/
theorem open_val {H : Type} {enc : TypeId × Value → H} {w W : World} {base b0 : Nat} {sp : Nat → Bool} {held : Bool} {r : Reach} {n : Nat} {v : Value} {x : DataW H × List MemPlace} (hok : Value.okWide Tryz.prog W r b0 56 v)
    (h : DataW.trod enc Tryz.prog w base sp held n 56 v.cells.toList = some x) : ∃ u : V, v = .agg #[.int .i64 u.k, .int .i64 u.n, .string u.s] ∧ u.wf := by
  obtain ⟨cs, rfl, _⟩ := okWide_struct Tryz.underlying56 hok
  obtain ⟨u, hu, hc⟩ := trod_V h
  obtain ⟨cs⟩ := cs
  have : cs = [.int .i64 u.k, .int .i64 u.n, .string u.s] := hc
  subst this
  exact ⟨u, rfl, hu⟩

set_option maxRecDepth 100000 in
theorem open_i64 {H : Type} {enc : TypeId × Value → H} {w W : World} {base b0 : Nat} {sp : Nat → Bool} {held : Bool} {r : Reach} {n : Nat} {v : Value} {x : DataW H × List MemPlace} {t : TypeId} (ht : Tryz.prog.underlying t = some (.int .i64)) (hok : Value.okWide Tryz.prog W r b0 t v)
    (h : DataW.trod enc Tryz.prog w base sp held n t v.cells.toList = some x) : ∃ k : Int, v = .int .i64 k ∧ I64 k := by
  obtain ⟨k, rfl⟩ := okWide_int ht hok
  obtain ⟨k', e, _, hw⟩ := DataW.trod_int ht h
  simp [Value.cells] at e
  subst e
  exact ⟨k, rfl, i64_of hw⟩
set_option maxRecDepth 100000 in
theorem open_str {H : Type} {enc : TypeId × Value → H} {w W : World} {base b0 : Nat} {sp : Nat → Bool} {held : Bool} {r : Reach} {n : Nat} {v : Value} {x : DataW H × List MemPlace} {t : TypeId} (ht : Tryz.prog.underlying t = some .string) (hok : Value.okWide Tryz.prog W r b0 t v)
    (h : DataW.trod enc Tryz.prog w base sp held n t v.cells.toList = some x) : ∃ s : ByteArray, v = .string s ∧ s.size ≤ 9223372036854775807 := by
  obtain ⟨s, rfl⟩ := okWide_string ht hok
  obtain ⟨s', e, _, hw⟩ := DataW.trod_string ht h
  simp [Value.cells] at e
  subst e
  exact ⟨s, rfl, hw⟩

/-- A start for the witness: the tables and the two sentinels as their initialisers lay them. -/
noncomputable def low : Nat := (World.holding Tryz.prog default ⟨#[], #[], []⟩).heap.size
def layErr (b : Nat) : Obj → Obj
  | .cells _ t frozen => .cells #[.iface 210 (.pointer (some ⟨b, 0, none⟩))] t frozen
  | o => o
noncomputable def laidWorldE (os : Os) : World :=
  let w0 := World.holding Tryz.prog os ⟨#[.cells #[.string ⟨#[118, 97, 108, 117, 101, 32, 111, 117, 116, 32, 111, 102, 32, 114, 97, 110, 103, 101]⟩] 212, .cells #[.string ⟨#[105, 110, 118, 97, 108, 105, 100, 32, 115, 121, 110, 116, 97, 120]⟩] 212], #[], []⟩
  { w0 with heap := ((((w0.heap.modify 2 (layIn Rows.laid_internal_strconv_uint64pow10)).modify 5 (layIn Rows.laid_math_bits_deBruijn32tab)).modify 6 (layIn Rows.laid_math_bits_deBruijn64tab)).modify 4 (layErr low)).modify 3 (layErr (low + 1)) }
end

/-! ### Laid3 -/
section
open Go.ChangeShapes Go.WideShapes Go.ChangeAt Go.RowKit Go.Deep

theorem gSym : Tryz.prog.globalNamed "ordinal/lexer.symbols" = some 0 := by kernel_rfl
theorem gSymType : (Tryz.prog.globals[0]?).map (·.type) = some 129 := by kernel_rfl
theorem cellsStr : Tryz.prog.cellsOf 9 = 1 := by kernel_rfl
theorem cellsSym : Tryz.prog.cellsOf 129 = 12 := by kernel_rfl
theorem symData_eq : (Rows.laid_ordinal_lexer_symbols : DataW Unit) = .agg (symB.map fun b => .lit (.string b.data.toList)) := by kernel_rfl

theorem sym_of_laid {l : List (String × DataW Unit)} {W : World} (hm : ("ordinal/lexer.symbols", Rows.laid_ordinal_lexer_symbols) ∈ l) (hp : (l.all fun x => x.2.handleName?.isNone) = true) (h : laidMetH Tryz.prog l W) : SymAt W := by
  rw [MakeChecks.laidMetH_plain _ _ _ hp] at h
  obtain ⟨ps, hv, _⟩ := h
  obtain ⟨g, t, cs, fuel, p, h1, h2, h3, h4⟩ := laidVars_reads hv _ _ hm
  obtain rfl := Option.some.inj (gSym.symm.trans h1)
  obtain rfl := Option.some.inj (gSymType.symm.trans h2)
  rw [symData_eq] at h4
  obtain ⟨xs, m, _, hx, hcl, hxl, hf⟩ := DataW.trod_array Tryz.underlying129 h4
  rw [cellsSym] at hcl
  rw [cellsStr] at hf
  have hxs : xs.map (·.1) = symB.map fun b => (DataW.lit (.string b.data.toList) : DataW Unit) := by
    have := congrArg Prod.fst hx
    injection this with this
    exact this.symm
  intro j hj
  have hcj : W.cell? ⟨0, j, none⟩ = cs[j]? := World.var?_cell gSym h3 j
  rw [hcj]
  have e1 := hf j hj
  rw [Nat.mul_one] at e1
  have hjl : j < cs.toList.length := by rw [hcl]; exact hj
  have e2 : (cs.toList.drop j).take 1 = [cs.toList[j]] := by
    rw [List.drop_eq_getElem_cons hjl]; rfl
  rw [e2, List.getElem?_eq_getElem (by rw [hxl]; exact hj)] at e1
  obtain ⟨s, es, ex, _⟩ := DataW.trod_string Tryz.underlying9 e1
  injection es with es
  have ey : (xs.map (·.1))[j]? = some (DataW.lit (.string s.data.toList) : DataW Unit) := by
    rw [List.getElem?_map, List.getElem?_eq_getElem (by rw [hxl]; exact hj), ex]; rfl
  rw [hxs, List.getElem?_map, List.getElem?_eq_getElem (show j < symB.length from hj)] at ey
  have ez : (symB[j]'hj).data.toList = s.data.toList := by
    simp only [Option.map_some, Option.some.injEq] at ey
    injection ey with ey
    injection ey
  have hs : s = symB[j]'hj := ByteArray.ext (Array.toList_inj.1 ez.symm)
  rw [← hs, ← es]
  simp [Array.getElem?_eq_getElem (show j < cs.size by simpa using hjl)]

theorem envL_of_laid {l r : List (String × DataW Unit)} {W : World} {a b c d : String × DataW Unit} (hl : l = a :: b :: c :: d :: r) (hd : d = ("strconv.ErrRange", Rows.laid_strconv_ErrRange)) (hm : ("internal/strconv.uint64pow10", Rows.laid_internal_strconv_uint64pow10) ∈ l) (hm2 : ("ordinal/lexer.symbols", Rows.laid_ordinal_lexer_symbols) ∈ l) (hp : (l.all fun x => x.2.handleName?.isNone) = true) (h : laidMetH Tryz.prog l W) : EnvL W := by
  refine ⟨⟨tab_of_laid hm hp h, ?_⟩, sym_of_laid hm2 hp h⟩
  rw [MakeChecks.laidMetH_plain _ _ _ hp] at h
  subst hl hd
  obtain ⟨a0, s0, hv, _⟩ := laid_sentinel h.tail.tail.tail gErr gErrType Tryz.underlying60 nameErr Tryz.underlying210 Tryz.underlying212 rfl rfl Tryz.underlying9 (by kernel_rfl) (by kernel_rfl)
  exact ⟨_, _, by simpa using World.var?_cell gErr hv 0⟩

set_option maxRecDepth 100000 in
theorem open_u8 {H : Type} {enc : TypeId × Value → H} {w W : World} {base b0 : Nat} {sp : Nat → Bool} {held : Bool} {r : Reach} {n : Nat} {v : Value} {x : DataW H × List MemPlace} {t : TypeId} (ht : Tryz.prog.underlying t = some (.int .u8)) (hok : Value.okWide Tryz.prog W r b0 t v)
    (h : DataW.trod enc Tryz.prog w base sp held n t v.cells.toList = some x) : ∃ k : Nat, v = .int .u8 k ∧ k < 256 := by
  obtain ⟨k, rfl⟩ := okWide_int ht hok
  obtain ⟨k', e, _, hw⟩ := DataW.trod_int ht h
  simp [Value.cells] at e
  subst e
  simp [Lit.wf, IntKind.min, IntKind.max, IntKind.signed, IntKind.bits] at hw
  exact ⟨k.toNat, by rw [Int.toNat_of_nonneg (by omega)], by omega⟩

/-- A start for the witness: the symbols too. -/
def layStrs (d : DataW Unit) : Obj → Obj
  | .cells _ t frozen => .cells (match d with | .agg l => (l.map fun | .lit (.string b) => Value.string ⟨b.toArray⟩ | _ => undef).toArray | _ => #[]) t frozen
  | o => o
noncomputable def laidWorldL (os : Os) : World := { laidWorldE os with heap := (laidWorldE os).heap.modify 0 (layStrs Rows.laid_ordinal_lexer_symbols) }
end
end Go.Proofs.YtnbacdmlaedppaaGreatDoor
