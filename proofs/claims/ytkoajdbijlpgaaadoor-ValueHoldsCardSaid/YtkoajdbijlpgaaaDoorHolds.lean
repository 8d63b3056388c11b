/-
  WALKS: value.Holds, the document's Holds.
-/
import Derived.Test.YtkoajdbijlpgaaaDoorRefCmp
import Derived.Test.YtkoajdbijlpgaaaDoorPstr
import Derived.Test.YtkoajdbijlpgaaaDoorKit3
namespace Go.Proofs.YtkoajdbijlpgaaaDoor
open Go.RowKit

/-- What an operator says of a comparison. -/
def holdsB (op c : Int) : Bool :=
  if op = 0 then c == 0 else if op = 1 then c != 0 else if op = 2 then decide (c < 0) else if op = 3 then decide (c ≤ 0) else if op = 4 then decide (0 < c) else decide (0 ≤ c)
def holdsL (a : V) (op : Int) (b : V) : Bool × Int :=
  if op < 0 ∨ 5 < op then (false, 2) else if a.valid = false ∨ b.valid = false then (false, 4) else (holdsB op (V.cmp a b), 0)
/-- The operator that says the opposite. -/
def notOp (op : Int) : Int := if op = 0 then 1 else if op = 1 then 0 else if op = 2 then 5 else if op = 3 then 4 else if op = 4 then 3 else 2
theorem holds_not (op c : Int) (h0 : 0 ≤ op) (h5 : op ≤ 5) : holdsB (notOp op) c = !holdsB op c := by
  obtain rfl | rfl | rfl | rfl | rfl | rfl : op = 0 ∨ op = 1 ∨ op = 2 ∨ op = 3 ∨ op = 4 ∨ op = 5 := by omega
  all_goals simp [notOp, holdsB, bne]
  all_goals first | rfl | (rw [← decide_not]; congr 1; simp; done) | (rw [← decide_not, decide_eq_decide]; omega)

theorem heap_two (w : World) (o1 o2 : Obj) : ((w.alloc o1).alloc o2).heap[w.heap.size]? = some o1 ∧ ((w.alloc o1).alloc o2).heap[w.heap.size + 1]? = some o2 :=
  ⟨res_keep (heap_alloc_new w o1) (below_one _ _) (by simp), by simpa using heap_alloc_new (w.alloc o1) o2⟩

set_option maxRecDepth 100000 in
set_option maxHeartbeats 4000000 in
theorem value_holds (a b : V) (op : Int) (w : World) {x : Bool × Int} (hx : holdsL a op b = x) :
    Calls Tryd.prog 51 #[.agg #[.int .i64 a.k, .int .i64 a.n, .string a.s], .int .i64 op, .agg #[.int .i64 b.k, .int .i64 b.n, .string b.s]] w fun e w' => e = .returned (.tuple #[.bool x.1, .int .i64 x.2]) ∧ Below w.heap.size w w' := by
  have k0 : Below w.heap.size w ((w.alloc (.cells #[.int .i64 a.k, .int .i64 a.n, .string a.s] 41)).alloc (.cells #[.int .i64 b.k, .int .i64 b.n, .string b.s] 41)) := below_two w _ _
  obtain ⟨z1, z2⟩ := heap_two w (.cells #[.int .i64 a.k, .int .i64 a.n, .string a.s] 41) (.cells #[.int .i64 b.k, .int .i64 b.n, .string b.s] 41)
  have c00 := cell_res z1 0
  have c10 := cell_res z2 0
  have c01 := cell_res z1 1
  have c11 := cell_res z2 1
  have c02 := cell_res z1 2
  have c12 := cell_res z2 2
  clear z1 z2
  unfold holdsL at hx
  by_cases h0 : op < 0 ∨ 5 < op
  · rw [if_pos h0] at hx
    subst hx
    rcases h0 with h0 | h0
    all_goals
      clear c00 c01 c02 c10 c11 c12
      go_enter Tryd.func51, Tryd.ntmps51
      go_wp2
      go_ret2
      exact ⟨rfl, k0⟩
  · rw [if_neg h0] at hx
    have o1 : 0 ≤ op := by omega
    have o2 : op ≤ 5 := by omega
    clear h0
    cases va : a.valid
    · rw [if_pos (.inl va)] at hx
      subst hx
      have H1 := fun W => hid (value_valid a W va)
      clear va
      go_enter Tryd.func51, Tryd.ntmps51
      go_wp2_with fail
      generalize ((w.alloc (.cells #[.int .i64 a.k, .int .i64 a.n, .string a.s] 41)).alloc (.cells #[.int .i64 b.k, .int .i64 b.n, .string b.s] 41)) = w0 at *
      refine ((H1 _).out).mono ?_
      rintro e w1 ⟨rfl, b1⟩
      have k1 := k0.trans (b1.mono k0.size)
      replace c00 := cell_keep b1 c00
      replace c01 := cell_keep b1 c01
      replace c02 := cell_keep b1 c02
      replace c10 := cell_keep b1 c10
      replace c11 := cell_keep b1 c11
      replace c12 := cell_keep b1 c12
      clear b1 k0
      clear H1
      go_wp2
      go_ret2
      exact ⟨rfl, k1⟩
    · have H1 := fun W => hid (value_valid a W va)
      cases vb : b.valid
      · rw [if_pos (.inr vb)] at hx
        subst hx
        have H2 := fun W => hid (value_valid b W vb)
        clear va vb
        go_enter Tryd.func51, Tryd.ntmps51
        go_wp2_with fail
        generalize ((w.alloc (.cells #[.int .i64 a.k, .int .i64 a.n, .string a.s] 41)).alloc (.cells #[.int .i64 b.k, .int .i64 b.n, .string b.s] 41)) = w0 at *
        refine ((H1 _).out).mono ?_
        rintro e w1 ⟨rfl, b1⟩
        have k1 := k0.trans (b1.mono k0.size)
        replace c00 := cell_keep b1 c00
        replace c01 := cell_keep b1 c01
        replace c02 := cell_keep b1 c02
        replace c10 := cell_keep b1 c10
        replace c11 := cell_keep b1 c11
        replace c12 := cell_keep b1 c12
        clear b1 k0
        go_wp2_with fail
        refine ((H2 _).out).mono ?_
        rintro e w2 ⟨rfl, b2⟩
        have k2 := k1.trans (b2.mono k1.size)
        replace c00 := cell_keep b2 c00
        replace c01 := cell_keep b2 c01
        replace c02 := cell_keep b2 c02
        replace c10 := cell_keep b2 c10
        replace c11 := cell_keep b2 c11
        replace c12 := cell_keep b2 c12
        clear b2 k1
        clear H1 H2
        go_wp2
        go_ret2
        exact ⟨rfl, k2⟩
      · rw [if_neg (by rw [va, vb]; simp)] at hx
        have H2 := fun W => hid (value_valid b W vb)
        obtain ⟨c, hc⟩ : ∃ c, V.cmp a b = c := ⟨_, rfl⟩
        have H3 := fun W => hid (value_cmp a b W hc)
        rw [hc] at hx
        clear va vb hc
        obtain rfl | rfl | rfl | rfl | rfl | rfl : op = 0 ∨ op = 1 ∨ op = 2 ∨ op = 3 ∨ op = 4 ∨ op = 5 := by omega
        all_goals
          simp [holdsB] at hx
          subst hx
          go_enter Tryd.func51, Tryd.ntmps51
          go_wp2_with fail
          generalize ((w.alloc (.cells #[.int .i64 a.k, .int .i64 a.n, .string a.s] 41)).alloc (.cells #[.int .i64 b.k, .int .i64 b.n, .string b.s] 41)) = w0 at *
          refine ((H1 _).out).mono ?_
          rintro e w1 ⟨rfl, b1⟩
          have k1 := k0.trans (b1.mono k0.size)
          replace c00 := cell_keep b1 c00
          replace c01 := cell_keep b1 c01
          replace c02 := cell_keep b1 c02
          replace c10 := cell_keep b1 c10
          replace c11 := cell_keep b1 c11
          replace c12 := cell_keep b1 c12
          clear b1 k0
          go_wp2_with fail
          refine ((H2 _).out).mono ?_
          rintro e w2 ⟨rfl, b2⟩
          have k2 := k1.trans (b2.mono k1.size)
          replace c00 := cell_keep b2 c00
          replace c01 := cell_keep b2 c01
          replace c02 := cell_keep b2 c02
          replace c10 := cell_keep b2 c10
          replace c11 := cell_keep b2 c11
          replace c12 := cell_keep b2 c12
          clear b2 k1
          go_wp2_with fail
          refine ((H3 _).out).mono ?_
          rintro e w3 ⟨rfl, b3⟩
          have k3 := k2.trans (b3.mono k2.size)
          replace c00 := cell_keep b3 c00
          replace c01 := cell_keep b3 c01
          replace c02 := cell_keep b3 c02
          replace c10 := cell_keep b3 c10
          replace c11 := cell_keep b3 c11
          replace c12 := cell_keep b3 c12
          clear b3 k2
          clear H1 H2 H3 c00 c01 c02 c10 c11 c12
          go_wp2
          go_ret2
          exact ⟨rfl, k3⟩

set_option maxRecDepth 100000 in
set_option maxHeartbeats 4000000 in
theorem ref_holds (a b : V) (op : Int) (w : World) (h0 : 0 ≤ op) (h5 : op ≤ 5) (ha : a.s.size ≤ 9223372036854775807) (hb : b.s.size ≤ 9223372036854775807) {x : Bool} (hx : holdsB op (V.cmp a b) = x) :
    Calls Tryd.prog 52 #[.agg #[.int .i64 a.k, .int .i64 a.n, .string a.s], .int .i64 op, .agg #[.int .i64 b.k, .int .i64 b.n, .string b.s]] w fun e w' => e = .returned (.bool x) ∧ Below w.heap.size w w' := by
  have k0 : Below w.heap.size w ((w.alloc (.cells #[.int .i64 a.k, .int .i64 a.n, .string a.s] 66)).alloc (.cells #[.int .i64 b.k, .int .i64 b.n, .string b.s] 66)) := below_two w _ _
  obtain ⟨z1, z2⟩ := heap_two w (.cells #[.int .i64 a.k, .int .i64 a.n, .string a.s] 66) (.cells #[.int .i64 b.k, .int .i64 b.n, .string b.s] 66)
  have c00 := cell_res z1 0
  have c10 := cell_res z2 0
  have c01 := cell_res z1 1
  have c11 := cell_res z2 1
  have c02 := cell_res z1 2
  have c12 := cell_res z2 2
  clear z1 z2
  obtain ⟨c, hc⟩ : ∃ c, V.cmp a b = c := ⟨_, rfl⟩
  have H3 := fun W => hid (refV_cmp a b W ha hb hc)
  rw [hc] at hx
  clear hc ha hb
  obtain rfl | rfl | rfl | rfl | rfl | rfl : op = 0 ∨ op = 1 ∨ op = 2 ∨ op = 3 ∨ op = 4 ∨ op = 5 := by omega
  all_goals
    simp [holdsB] at hx
    subst hx
    go_enter Tryd.func52, Tryd.ntmps52
    go_wp2_with fail
    generalize ((w.alloc (.cells #[.int .i64 a.k, .int .i64 a.n, .string a.s] 66)).alloc (.cells #[.int .i64 b.k, .int .i64 b.n, .string b.s] 66)) = w0 at *
    refine ((H3 _).out).mono ?_
    rintro e w1 ⟨rfl, b1⟩
    have k1 := k0.trans (b1.mono k0.size)
    replace c00 := cell_keep b1 c00
    replace c01 := cell_keep b1 c01
    replace c02 := cell_keep b1 c02
    replace c10 := cell_keep b1 c10
    replace c11 := cell_keep b1 c11
    replace c12 := cell_keep b1 c12
    clear b1 k0
    clear H3 c00 c01 c02 c10 c11 c12
    go_wp2
    go_ret
    exact ⟨rfl, k1⟩
end Go.Proofs.YtkoajdbijlpgaaaDoor
