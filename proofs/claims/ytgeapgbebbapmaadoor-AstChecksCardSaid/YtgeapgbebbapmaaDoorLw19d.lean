/-
  WALK: the law AstChecks.
-/
import Derived.Test.YtgeapgbebbapmaaDoorAw19
import Derived.Test.YtgeapgbebbapmaaDoorRfs
namespace Go.Proofs.YtgeapgbebbapmaaDoor
open Go.RowKit

set_option maxRecDepth 100000 in
set_option maxHeartbeats 4000000 in
theorem law_checks19 (q : Qry) (A R O : Option Addr) (ch cr co : Nat) (w : World) (hq : QryIn w q A R O ch cr co) (hwf : q.wf) (htab : Tab w) :
    Calls Tryd.prog 3 #[qryV q A R O ch cr co] w fun e w' => e = .returned (.bool true) ∧ Below w.heap.size w w' := by
  obtain ⟨y, ey⟩ : ∃ y, checkQ q = y := ⟨_, rfl⟩
  have CG := fun W h => hid (law_great19 q A R O ch cr co W h)
  have C1 := fun W h => hid (ast_check q A R O ch cr co W h hwf ey)
  have C2 := fun W h => hid (ref_check19 q A R O ch cr co W h ey)
  have HQ := hid hq
  have HT := hid htab
  obtain ⟨Y, hY⟩ : ∃ Y : ByteArray, (⟨q.aggVar.toArray⟩ : ByteArray) = Y := ⟨_, rfl⟩
  unfold qryV at CG C1 C2 ⊢
  rw [hY] at CG C1 C2 ⊢
  have HB0 : Hid (Below (w.heap.size + 1) (w.alloc (.cells #[.slice A q.head.length ch, .int .i64 q.agg, .string Y, .slice R q.rules.length cr, .slice O q.order.length co] 26)) (w.alloc (.cells #[.slice A q.head.length ch, .int .i64 q.agg, .string Y, .slice R q.rules.length cr, .slice O q.order.length co] 26))) := hid (Below.refl _ _)
  obtain ⟨_, _, _, _, _, qlt, hbel⟩ := qry_cells HB0.out
  clear hY hq ey htab hwf
  go_enter Tryd.func3, Tryd.ntmps3
  go_wp2_with fail
  refine (CG _ (HQ.out.below hbel)).out.mono ?_
  rintro e w1 ⟨bg, rfl, b1⟩
  have HB1 := hid (HB0.out.trans (b1.mono (by simp)))
  clear CG b1 HB0 hbel qlt
  obtain ⟨q0, q1, q2, q3, q4, qlt, hbel⟩ := qry_cells HB1.out
  have HBel := hid hbel
  have CA := fun (p : BelowBy w1) => hid (law_awake19 p.to (HT.out.below (HBel.out.trans (p.le.mono HBel.out.size))))
  have D1 := fun (p : BelowBy w1) => hid (C1 p.to (HQ.out.below (HBel.out.trans (p.le.mono HBel.out.size)))).out
  have D2 := fun (p : BelowBy w1) => hid (C2 p.to (HQ.out.below (HBel.out.trans (p.le.mono HBel.out.size)))).out
  cases bg
  · replace q0 := fun p : BelowBy w1 => by_cell q0 p
    replace q1 := fun p : BelowBy w1 => by_cell q1 p
    replace q2 := fun p : BelowBy w1 => by_cell q2 p
    replace q3 := fun p : BelowBy w1 => by_cell q3 p
    replace q4 := fun p : BelowBy w1 => by_cell q4 p
    clear C1 C2 HB1 hbel HQ HT
    go_wp2_with fail
    refine wp_region_below (by kernel_rfl) (by kernel_rfl) ?_
    repeat (go_big_quiet_step (first | with_reducible exact calls_by (D1 _).out | with_reducible exact calls_by (D2 _).out | with_reducible exact calls_by (CA _).out))
    refine wpQuiet_nil ?_
    rintro wq ⟨⟨wqx, kq⟩, rfl⟩
    have hb := HBel.out.trans (kq.mono HBel.out.size)
    go_wp2
    go_ret
    exact ⟨rfl, hb⟩
  · clear C1 C2 D1 D2 HB1 HQ HT q0 q1 q2 q3 q4
    go_wp2_with fail
    refine (CA ⟨w1, Below.refl _ _⟩).out.mono ?_
    rintro e w2 ⟨rfl, b2⟩
    have hb := HBel.out.trans (b2.mono HBel.out.size)
    clear CA b2
    go_wp2
    go_ret
    exact ⟨rfl, hb⟩
end Go.Proofs.YtgeapgbebbapmaaDoor
