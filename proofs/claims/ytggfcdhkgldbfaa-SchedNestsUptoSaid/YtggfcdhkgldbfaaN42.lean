/-
  PARTS of a claim, merged by segs.py: NwNe3, NwNe4.
-/
import Derived.Test.YtggfcdhkgldbfaaN41
import Derived.Test.YtggfcdhkgldbfaaN40
import Derived.Test.YtggfcdhkgldbfaaN30
namespace Go.Proofs.Ytggfcdhkgldbfaa
set_option linter.unusedSimpArgs false
set_option linter.unusedVariables false

/-! ### NwNe3 -/
section
set_option linter.unusedSimpArgs false
open Go Go.Conc Go.RowKit Go.ConcR.Gen Cw

theorem arrG28 (T : Array Value) (h : T.size = 28) : T = #[gv T 0, gv T 1, gv T 2, gv T 3, gv T 4, gv T 5, gv T 6, gv T 7, gv T 8, gv T 9, gv T 10, gv T 11, gv T 12, gv T 13, gv T 14, gv T 15, gv T 16, gv T 17, gv T 18, gv T 19, gv T 20, gv T 21, gv T 22, gv T 23, gv T 24, gv T 25, gv T 26, gv T 27] := (arr_eq T 28 h).trans (by rfl)
section
variable {X : Cx} {R : World → World → Prop} {Q : World → Prop}
set_option maxRecDepth 100000 in
set_option maxHeartbeats 4000000 in
/-- Behind the run, to the loop's head. -/
theorem e_after (hrl : ∀ w w', Q w → R w w' → Q w') {a : Option Addr} {n c : Nat} {yf : Value} {tl : List Nat} (htl : tlE tl) (cs : List Frame) (T : Array Value) (hT : T.size = 28) (h1 : T[1]? = some yf) (w : World) (hF : Q w) :
    Goes Try.prog false R (HDq X) (fun g w => (∃ T', (T'.size = 28 ∧ T'[1]? = some yf ∧ T'[17]? = some (.slice a n c) ∧ T'[18]? = some (.int .i64 n) ∧ T'[19]? = some (.int .i64 0)) ∧ g = headE T' cs) ∧ Q w) 30
      (G ((base 67).at (Act.put ⟨T, []⟩ ((opsE1[5]?).bind (·.dst)) (.tuple #[.slice a n c, .int .i64 0])) (.inRegion opsE1 (6 :: tl) :: [.code (rt (rt bodyE))])) cs) w := by
  rw [arrG28 T hT]
  simp only [gv_of h1]
  simp only [fNe, headE, todoE, opsE1, opsE5, rndE, bodyE, inner, rt, lf, opsOf, Try.f67, Option.getD_some]
  walk_nrm
  rcases htl with rfl | rfl | rfl
  · refine Goes.step rfl (fun w hr => ?_)
    replace hF := (hrl _ _) hF hr
    clear hr
    refine goes_oper_k rfl rfl (by k_ne) (fun K hK => ?_)
    go_simp
    refine hK _ _ ⟨?_, ?_⟩
    · rw [listed_nil (by simp [go_sem])]; exact hdq_idle _ _
    clear hK K
    try walk_nrm
    refine Goes.step rfl (fun w hr => ?_)
    replace hF := (hrl _ _) hF hr
    clear hr
    refine goes_oper_k rfl rfl (by k_ne) (fun K hK => ?_)
    go_simp
    refine hK _ _ ⟨?_, ?_⟩
    · rw [listed_nil (by simp [go_sem])]; exact hdq_idle _ _
    clear hK K
    try walk_nrm
    refine Goes.step rfl (fun w hr => ?_)
    replace hF := (hrl _ _) hF hr
    clear hr
    refine goes_oper_k rfl rfl (by k_ne) (fun K hK => ?_)
    go_simp
    refine hK _ _ ⟨?_, ?_⟩
    · rw [listed_nil (by simp [go_sem])]; exact hdq_idle _ _
    clear hK K
    try walk_nrm
    refine Goes.step rfl (fun w hr => ?_)
    replace hF := (hrl _ _) hF hr
    clear hr
    refine goes_oper_k rfl rfl (by k_ne) (fun K hK => ?_)
    go_simp
    refine hK _ _ ⟨?_, ?_⟩
    · rw [listed_nil (by simp [go_sem])]; exact hdq_idle _ _
    clear hK K
    try walk_nrm
    refine Goes.step rfl (fun w hr => ?_)
    replace hF := (hrl _ _) hF hr
    clear hr
    refine goes_oper_k rfl rfl (by k_ne) (fun K hK => ?_)
    go_simp
    refine hK _ _ ⟨?_, ?_⟩
    · rw [listed_nil (by simp [go_sem])]; exact hdq_idle _ _
    clear hK K
    try walk_nrm
    refine Goes.step rfl (fun w hr => ?_)
    replace hF := (hrl _ _) hF hr
    clear hr
    rw [stepG_region_end]
    simp only [goes_go]
    refine ⟨hdq_idle _ _, ?_⟩
    refine Goes.step rfl (fun w hr => ?_)
    replace hF := (hrl _ _) hF hr
    clear hr
    rw [stepG_seq]
    simp only [goes_go]
    refine ⟨hdq_idle _ _, ?_⟩
    refine Goes.step rfl (fun w hr => ?_)
    replace hF := (hrl _ _) hF hr
    clear hr
    rw [stepG_region]
    simp only [goes_go, List.size_toArray, List.length_cons, List.length_nil, Nat.reduceAdd, Nat.zero_add, List.range, List.range.loop]
    refine ⟨hdq_idle _ _, ?_⟩
    refine Goes.step rfl (fun w hr => ?_)
    replace hF := (hrl _ _) hF hr
    clear hr
    refine goes_oper_k rfl rfl (by k_ne) (fun K hK => ?_)
    go_simp
    refine hK _ _ ⟨?_, ?_⟩
    · rw [listed_nil (by simp [go_sem])]; exact hdq_idle _ _
    clear hK K
    try walk_nrm
    refine Goes.step rfl (fun w hr => ?_)
    replace hF := (hrl _ _) hF hr
    clear hr
    refine goes_oper_k rfl rfl (by k_ne) (fun K hK => ?_)
    go_simp
    refine hK _ _ ⟨?_, ?_⟩
    · rw [listed_nil (by simp [go_sem, *])]; exact hdq_idle _ _
    clear hK K
    try walk_nrm
    refine Goes.step rfl (fun w hr => ?_)
    replace hF := (hrl _ _) hF hr
    clear hr
    refine goes_oper_k rfl rfl (by k_ne) (fun K hK => ?_)
    go_simp
    refine hK _ _ ⟨?_, ?_⟩
    · rw [listed_nil (by simp [go_sem])]; exact hdq_idle _ _
    clear hK K
    try walk_nrm
    refine Goes.step rfl (fun w hr => ?_)
    replace hF := (hrl _ _) hF hr
    clear hr
    rw [stepG_region_end]
    simp only [goes_go]
    refine ⟨hdq_idle _ _, ?_⟩
    refine Goes.step rfl (fun w hr => ?_)
    replace hF := (hrl _ _) hF hr
    clear hr
    rw [stepG_block]
    simp only [goes_go]
    refine ⟨hdq_idle _ _, ?_⟩
    refine Goes.step rfl (fun w hr => ?_)
    replace hF := (hrl _ _) hF hr
    clear hr
    rw [stepG_loop]
    simp only [goes_go]
    refine ⟨hdq_idle _ _, ?_⟩
    refine Goes.stop (fun w hr => ⟨⟨_, ⟨?_, ?_, ?_, ?_, ?_⟩, rfl⟩, hrl _ _ hF hr⟩) <;> rfl
  · refine Goes.step rfl (fun w hr => ?_)
    replace hF := (hrl _ _) hF hr
    clear hr
    refine goes_oper_k rfl rfl (by k_ne) (fun K hK => ?_)
    go_simp
    refine hK _ _ ⟨?_, ?_⟩
    · rw [listed_nil (by simp [go_sem])]; exact hdq_idle _ _
    clear hK K
    try walk_nrm
    refine Goes.step rfl (fun w hr => ?_)
    replace hF := (hrl _ _) hF hr
    clear hr
    refine goes_oper_k rfl rfl (by k_ne) (fun K hK => ?_)
    go_simp
    refine hK _ _ ⟨?_, ?_⟩
    · rw [listed_nil (by simp [go_sem])]; exact hdq_idle _ _
    clear hK K
    try walk_nrm
    refine Goes.step rfl (fun w hr => ?_)
    replace hF := (hrl _ _) hF hr
    clear hr
    refine goes_oper_k rfl rfl (by k_ne) (fun K hK => ?_)
    go_simp
    refine hK _ _ ⟨?_, ?_⟩
    · rw [listed_nil (by simp [go_sem])]; exact hdq_idle _ _
    clear hK K
    try walk_nrm
    refine Goes.step rfl (fun w hr => ?_)
    replace hF := (hrl _ _) hF hr
    clear hr
    refine goes_oper_k rfl rfl (by k_ne) (fun K hK => ?_)
    go_simp
    refine hK _ _ ⟨?_, ?_⟩
    · rw [listed_nil (by simp [go_sem])]; exact hdq_idle _ _
    clear hK K
    try walk_nrm
    refine Goes.step rfl (fun w hr => ?_)
    replace hF := (hrl _ _) hF hr
    clear hr
    refine goes_oper_k rfl rfl (by k_ne) (fun K hK => ?_)
    go_simp
    refine hK _ _ ⟨?_, ?_⟩
    · rw [listed_nil (by simp [go_sem])]; exact hdq_idle _ _
    clear hK K
    try walk_nrm
    refine Goes.step rfl (fun w hr => ?_)
    replace hF := (hrl _ _) hF hr
    clear hr
    rw [stepG_region_end]
    simp only [goes_go]
    refine ⟨hdq_idle _ _, ?_⟩
    refine Goes.step rfl (fun w hr => ?_)
    replace hF := (hrl _ _) hF hr
    clear hr
    rw [stepG_seq]
    simp only [goes_go]
    refine ⟨hdq_idle _ _, ?_⟩
    refine Goes.step rfl (fun w hr => ?_)
    replace hF := (hrl _ _) hF hr
    clear hr
    rw [stepG_region]
    simp only [goes_go, List.size_toArray, List.length_cons, List.length_nil, Nat.reduceAdd, Nat.zero_add, List.range, List.range.loop]
    refine ⟨hdq_idle _ _, ?_⟩
    refine Goes.step rfl (fun w hr => ?_)
    replace hF := (hrl _ _) hF hr
    clear hr
    refine goes_oper_k rfl rfl (by k_ne) (fun K hK => ?_)
    go_simp
    refine hK _ _ ⟨?_, ?_⟩
    · rw [listed_nil (by simp [go_sem])]; exact hdq_idle _ _
    clear hK K
    try walk_nrm
    refine Goes.step rfl (fun w hr => ?_)
    replace hF := (hrl _ _) hF hr
    clear hr
    refine goes_oper_k rfl rfl (by k_ne) (fun K hK => ?_)
    go_simp
    refine hK _ _ ⟨?_, ?_⟩
    · rw [listed_nil (by simp [go_sem, *])]; exact hdq_idle _ _
    clear hK K
    try walk_nrm
    refine Goes.step rfl (fun w hr => ?_)
    replace hF := (hrl _ _) hF hr
    clear hr
    refine goes_oper_k rfl rfl (by k_ne) (fun K hK => ?_)
    go_simp
    refine hK _ _ ⟨?_, ?_⟩
    · rw [listed_nil (by simp [go_sem])]; exact hdq_idle _ _
    clear hK K
    try walk_nrm
    refine Goes.step rfl (fun w hr => ?_)
    replace hF := (hrl _ _) hF hr
    clear hr
    rw [stepG_region_end]
    simp only [goes_go]
    refine ⟨hdq_idle _ _, ?_⟩
    refine Goes.step rfl (fun w hr => ?_)
    replace hF := (hrl _ _) hF hr
    clear hr
    rw [stepG_block]
    simp only [goes_go]
    refine ⟨hdq_idle _ _, ?_⟩
    refine Goes.step rfl (fun w hr => ?_)
    replace hF := (hrl _ _) hF hr
    clear hr
    rw [stepG_loop]
    simp only [goes_go]
    refine ⟨hdq_idle _ _, ?_⟩
    refine Goes.stop (fun w hr => ⟨⟨_, ⟨?_, ?_, ?_, ?_, ?_⟩, rfl⟩, hrl _ _ hF hr⟩) <;> rfl
  · refine Goes.step rfl (fun w hr => ?_)
    replace hF := (hrl _ _) hF hr
    clear hr
    refine goes_oper_k rfl rfl (by k_ne) (fun K hK => ?_)
    go_simp
    refine hK _ _ ⟨?_, ?_⟩
    · rw [listed_nil (by simp [go_sem])]; exact hdq_idle _ _
    clear hK K
    try walk_nrm
    refine Goes.step rfl (fun w hr => ?_)
    replace hF := (hrl _ _) hF hr
    clear hr
    refine goes_oper_k rfl rfl (by k_ne) (fun K hK => ?_)
    go_simp
    refine hK _ _ ⟨?_, ?_⟩
    · rw [listed_nil (by simp [go_sem])]; exact hdq_idle _ _
    clear hK K
    try walk_nrm
    refine Goes.step rfl (fun w hr => ?_)
    replace hF := (hrl _ _) hF hr
    clear hr
    refine goes_oper_k rfl rfl (by k_ne) (fun K hK => ?_)
    go_simp
    refine hK _ _ ⟨?_, ?_⟩
    · rw [listed_nil (by simp [go_sem])]; exact hdq_idle _ _
    clear hK K
    try walk_nrm
    refine Goes.step rfl (fun w hr => ?_)
    replace hF := (hrl _ _) hF hr
    clear hr
    refine goes_oper_k rfl rfl (by k_ne) (fun K hK => ?_)
    go_simp
    refine hK _ _ ⟨?_, ?_⟩
    · rw [listed_nil (by simp [go_sem])]; exact hdq_idle _ _
    clear hK K
    try walk_nrm
    refine Goes.step rfl (fun w hr => ?_)
    replace hF := (hrl _ _) hF hr
    clear hr
    refine goes_oper_k rfl rfl (by k_ne) (fun K hK => ?_)
    go_simp
    refine hK _ _ ⟨?_, ?_⟩
    · rw [listed_nil (by simp [go_sem])]; exact hdq_idle _ _
    clear hK K
    try walk_nrm
    refine Goes.step rfl (fun w hr => ?_)
    replace hF := (hrl _ _) hF hr
    clear hr
    rw [stepG_region_end]
    simp only [goes_go]
    refine ⟨hdq_idle _ _, ?_⟩
    refine Goes.step rfl (fun w hr => ?_)
    replace hF := (hrl _ _) hF hr
    clear hr
    rw [stepG_seq]
    simp only [goes_go]
    refine ⟨hdq_idle _ _, ?_⟩
    refine Goes.step rfl (fun w hr => ?_)
    replace hF := (hrl _ _) hF hr
    clear hr
    rw [stepG_region]
    simp only [goes_go, List.size_toArray, List.length_cons, List.length_nil, Nat.reduceAdd, Nat.zero_add, List.range, List.range.loop]
    refine ⟨hdq_idle _ _, ?_⟩
    refine Goes.step rfl (fun w hr => ?_)
    replace hF := (hrl _ _) hF hr
    clear hr
    refine goes_oper_k rfl rfl (by k_ne) (fun K hK => ?_)
    go_simp
    refine hK _ _ ⟨?_, ?_⟩
    · rw [listed_nil (by simp [go_sem])]; exact hdq_idle _ _
    clear hK K
    try walk_nrm
    refine Goes.step rfl (fun w hr => ?_)
    replace hF := (hrl _ _) hF hr
    clear hr
    refine goes_oper_k rfl rfl (by k_ne) (fun K hK => ?_)
    go_simp
    refine hK _ _ ⟨?_, ?_⟩
    · rw [listed_nil (by simp [go_sem, *])]; exact hdq_idle _ _
    clear hK K
    try walk_nrm
    refine Goes.step rfl (fun w hr => ?_)
    replace hF := (hrl _ _) hF hr
    clear hr
    refine goes_oper_k rfl rfl (by k_ne) (fun K hK => ?_)
    go_simp
    refine hK _ _ ⟨?_, ?_⟩
    · rw [listed_nil (by simp [go_sem])]; exact hdq_idle _ _
    clear hK K
    try walk_nrm
    refine Goes.step rfl (fun w hr => ?_)
    replace hF := (hrl _ _) hF hr
    clear hr
    rw [stepG_region_end]
    simp only [goes_go]
    refine ⟨hdq_idle _ _, ?_⟩
    refine Goes.step rfl (fun w hr => ?_)
    replace hF := (hrl _ _) hF hr
    clear hr
    rw [stepG_block]
    simp only [goes_go]
    refine ⟨hdq_idle _ _, ?_⟩
    refine Goes.step rfl (fun w hr => ?_)
    replace hF := (hrl _ _) hF hr
    clear hr
    rw [stepG_loop]
    simp only [goes_go]
    refine ⟨hdq_idle _ _, ?_⟩
    refine Goes.stop (fun w hr => ⟨⟨_, ⟨?_, ?_, ?_, ?_, ?_⟩, rfl⟩, hrl _ _ hF hr⟩) <;> rfl
set_option maxRecDepth 100000 in
set_option maxHeartbeats 4000000 in
/-- Behind a yield, to the loop's head. -/
theorem e_next (hrl : ∀ w w', Q w → R w w' → Q w') {u yf : Value} {n j : Nat} (hn : n < 9223372036854775807) (hj : j < n) (cs : List Frame) (T : Array Value) (hT : T.size = 28) (h1 : T[1]? = some yf) (h17 : T[17]? = some u) (h18 : T[18]? = some (.int .i64 n)) (h19 : T[19]? = some (.int .i64 j)) (w : World) (hF : Q w) :
    Goes Try.prog false R (HDq X) (fun g w => (∃ T', (T'.size = 28 ∧ T'[1]? = some yf ∧ T'[17]? = some u ∧ T'[18]? = some (.int .i64 n) ∧ T'[19]? = some (.int .i64 (j + 1 : Nat))) ∧ g = headE T' cs) ∧ Q w) 10
      (G ((base 67).at (Act.put ⟨T, []⟩ ((opsE5[3]?).bind (·.dst)) (.tuple #[])) (.inRegion opsE5 [] :: todoE)) cs) w := by
  have hwr : IntKind.i64.wrap ((j : Int) + 1) = ((j + 1 : Nat) : Int) := by rw [IntKind.wrap_i64]; omega
  rw [arrG28 T hT]
  simp only [gv_of h1, gv_of h17, gv_of h18, gv_of h19]
  simp only [fNe, headE, todoE, opsE1, opsE5, rndE, bodyE, inner, rt, lf, opsOf, Try.f67, Option.getD_some]
  walk_nrm
  refine Goes.step rfl (fun w hr => ?_)
  replace hF := (hrl _ _) hF hr
  clear hr
  rw [stepG_region_end]
  simp only [goes_go]
  refine ⟨hdq_idle _ _, ?_⟩
  refine Goes.step rfl (fun w hr => ?_)
  replace hF := (hrl _ _) hF hr
  clear hr
  rw [stepG_inBlock]
  simp only [goes_go]
  refine ⟨hdq_idle _ _, ?_⟩
  refine Goes.step rfl (fun w hr => ?_)
  replace hF := (hrl _ _) hF hr
  clear hr
  rw [stepG_region]
  simp only [goes_go, List.size_toArray, List.length_cons, List.length_nil, Nat.reduceAdd, Nat.zero_add, List.range, List.range.loop]
  refine ⟨hdq_idle _ _, ?_⟩
  refine Goes.step rfl (fun w hr => ?_)
  replace hF := (hrl _ _) hF hr
  clear hr
  refine goes_oper_k rfl rfl (by k_ne) (fun K hK => ?_)
  go_simp
  refine hK _ _ ⟨?_, ?_⟩
  · rw [listed_nil (by simp [go_sem])]; exact hdq_idle _ _
  clear hK K
  try walk_nrm
  refine Goes.step rfl (fun w hr => ?_)
  replace hF := (hrl _ _) hF hr
  clear hr
  refine goes_oper_k rfl rfl (by k_ne) (fun K hK => ?_)
  go_simp
  refine hK _ _ ⟨?_, ?_⟩
  · rw [listed_nil (by simp [go_sem])]; exact hdq_idle _ _
  clear hK K
  try walk_nrm
  refine Goes.step rfl (fun w hr => ?_)
  replace hF := (hrl _ _) hF hr
  clear hr
  rw [stepG_region_end]
  simp only [goes_go]
  refine ⟨hdq_idle _ _, ?_⟩
  refine Goes.step rfl (fun w hr => ?_)
  replace hF := (hrl _ _) hF hr
  clear hr
  rw [stepG_inLoop]
  simp only [goes_go]
  refine ⟨hdq_idle _ _, ?_⟩
  refine Goes.stop (fun w hr => ⟨⟨_, ⟨?_, ?_, ?_, ?_, ?_⟩, rfl⟩, hrl _ _ hF hr⟩) <;> first | rfl | exact congrArg (fun x => some (Value.int .i64 x)) hwr
set_option maxRecDepth 100000 in
set_option maxHeartbeats 4000000 in
/-- All is said: the task returns. -/
theorem e_end (hrl : ∀ w w', Q w → R w w' → Q w') {u yf : Value} {n : Nat} (ev bi bs cr b1 b2 : Nat) (tv xv : Value) (cs : List Frame) (T : Array Value) (hT : T.size = 28) (h1 : T[1]? = some yf) (h17 : T[17]? = some u) (h18 : T[18]? = some (.int .i64 n)) (h19 : T[19]? = some (.int .i64 n)) (w : World) (hF : Q w) :
    Goes Try.prog false R (HDq X) (fun g w => g = G ((base 21).at (actR ev bi bs cr b1 b2 tv xv (.tuple #[])) [.inRegion opsR []]) cs ∧ Q w) 12 (headE T (frR ev bi bs cr b1 b2 tv xv :: cs)) w := by
  unfold headE fNe
  rw [arrG28 T hT]
  simp only [gv_of h1, gv_of h17, gv_of h18, gv_of h19]
  simp only [fNe, headE, todoE, opsE1, opsE5, rndE, bodyE, inner, rt, lf, opsOf, Try.f67, Option.getD_some]
  refine Goes.step rfl (fun w hr => ?_)
  replace hF := (hrl _ _) hF hr
  clear hr
  rw [stepG_seq]
  simp only [goes_go]
  refine ⟨hdq_idle _ _, ?_⟩
  refine Goes.step rfl (fun w hr => ?_)
  replace hF := (hrl _ _) hF hr
  clear hr
  rw [stepG_region]
  simp only [goes_go, List.size_toArray, List.length_cons, List.length_nil, Nat.reduceAdd, Nat.zero_add, List.range, List.range.loop]
  refine ⟨hdq_idle _ _, ?_⟩
  refine Goes.step rfl (fun w hr => ?_)
  replace hF := (hrl _ _) hF hr
  clear hr
  refine goes_oper_k rfl rfl (by k_ne) (fun K hK => ?_)
  go_simp
  refine hK _ _ ⟨?_, ?_⟩
  · rw [listed_nil (by simp [go_sem, *])]; exact hdq_idle _ _
  clear hK K
  try walk_nrm
  refine Goes.step rfl (fun w hr => ?_)
  replace hF := (hrl _ _) hF hr
  clear hr
  rw [stepG_region_end]
  simp only [goes_go]
  refine ⟨hdq_idle _ _, ?_⟩
  refine Goes.step rfl (fun w hr => ?_)
  replace hF := (hrl _ _) hF hr
  clear hr
  rw [stepG_seq]
  simp only [goes_go]
  refine ⟨hdq_idle _ _, ?_⟩
  refine Goes.step rfl (fun w hr => ?_)
  replace hF := (hrl _ _) hF hr
  clear hr
  rw [stepG_cond (t := false) (by first | rfl | (simp [Act.eval]; omega))]
  simp only [goes_go, if_true, if_false, Bool.false_eq_true, ↓reduceIte]
  refine ⟨hdq_idle _ _, ?_⟩
  refine Goes.step rfl (fun w hr => ?_)
  replace hF := (hrl _ _) hF hr
  clear hr
  refine goes_exit rfl ?_
  refine ⟨hdq_idle _ _, ?_⟩
  refine Goes.step rfl (fun w hr => ?_)
  replace hF := (hrl _ _) hF hr
  clear hr
  rw [stepG_end]
  simp only [goes_go]
  refine ⟨hdq_idle _ _, ?_⟩
  refine Goes.step rfl (fun w hr => ?_)
  replace hF := (hrl _ _) hF hr
  clear hr
  unfold frR actR
  simp only [opsR, bodyR, rt, opsOf, Try.f21, Option.getD_some]
  refine goes_leave0 rfl rfl Try.func67 rfl ⟨hdq_idle _ _, ?_⟩
  walk_nrm
  exact Goes.stop (fun w hr => ⟨rfl, hrl _ _ hF hr⟩)
end
end

/-! ### NwNe4 -/
section
set_option linter.unusedSimpArgs false
open Go Go.Conc Go.RowKit Go.ConcR.Gen Cw

theorem events_store_str (P : Program) (w : World) (es : Array Event) (a : Addr) (m : Mode) (s : ByteArray) : (store a (.string s) m).events P w es = storedEv P w es a (.string s) m := events_store P w es a _ m rfl
theorem hdq_two {X : Cx} {w w₁ w₂ : World} {es : Array Event} {xb : Nat} (h1 : HDq X w w₁ #[]) (h2 : HDq X w₁ w₂ #[]) (hes : ∀ e ∈ es, ∃ k, e = ⟨.cell ⟨xb, k, none⟩, true, false⟩) (hsh : ∀ k, ¬ X.Sh (.cell ⟨xb, k, none⟩)) (hnp : ∀ k, ¬ Prot X w ⟨xb, k, none⟩) (hlt : xb < w₂.heap.size) : HDq X w w₂ es := by
  refine ⟨⟨h1.1.env.trans h2.1.env, fun c hc => (h2.1.ch c hc).trans (h1.1.ch c hc), fun b o => (h2.1.wg b o).trans (h1.1.wg b o), fun e he => ?_⟩, fun e he => ?_⟩
  · obtain ⟨k, rfl⟩ := hes e he
    refine ⟨fun x hx => ?_, fun a' => by simp, hlt⟩
    simp only [MemAct.ofEvent, MemAct.touch?, Option.some.injEq] at hx
    subst hx
    exact ⟨fun hS => absurd hS (hsh k), fun _ a' e => by obtain rfl := Loc.cell.inj e; exact hnp k⟩
  · obtain ⟨k, rfl⟩ := hes e he
    exact ⟨by simp, by simp⟩
section
variable {X : Cx} {V : Nat → Prop} {B : Nat} {L : Addr → Value → Prop} {ev : Nat} {Tk Q : World → Prop}
set_option maxRecDepth 100000 in
set_option maxHeartbeats 4000000 in
theorem e_yield (fx : Fx X V B L ev Tk) (hq : ∀ w w', Ext V w w' → Q w → Q w') (hQo : ∀ w₀ w, Q w₀ → w₀.heap.size ≤ w.heap.size → (∀ b, b < w₀.heap.size → ¬ V b → w.heap[b]? = w₀.heap[b]?) → Q w) {eb n c j b1 b2 : Nat} {i : Int} {s : ByteArray} (hL0 : L ⟨eb, j * 2, none⟩ (.int .i64 i)) (hL1 : L ⟨eb, j * 2 + 1, none⟩ (.string s)) (hj : j < n)
    (cs : List Frame) (w : World) (hF : WB X B L Tk w ∧ Q w) (T : Array Value) (hT : T.size = 28) (h1 : T[1]? = some (yldF b1 b2)) (h17 : T[17]? = some (.slice (some ⟨eb, 0, none⟩) n c)) (h18 : T[18]? = some (.int .i64 n)) (h19 : T[19]? = some (.int .i64 j)) :
    Goes Try.prog false (Ext V) (HDq X) (fun g w => (∃ T', (T'.size = 28 ∧ T'[1]? = some (yldF b1 b2) ∧ T'[17]? = some (.slice (some ⟨eb, 0, none⟩) n c) ∧ T'[18]? = some (.int .i64 n) ∧ T'[19]? = some (.int .i64 j)) ∧ g = G ((base 41).at ⟨#[.string s, pb b2, pb b1, undef, undef, undef, undef, undef, undef, undef, undef, undef, undef, undef, undef, undef], []⟩ [.code bodyY])
      (fNe T' (.inRegion opsE5 [3] :: todoE) :: cs)) ∧ WB X B L Tk w ∧ Q w) 50 (headE T cs) w := by
  have hji : (j : Int) < (n : Int) := by omega
  unfold headE fNe
  rw [arrG28 T hT]
  simp only [gv_of h1, gv_of h17, gv_of h18, gv_of h19]
  simp only [fNe, headE, todoE, opsE1, opsE5, rndE, bodyE, inner, rt, lf, opsOf, Try.f67, Option.getD_some]
  refine Goes.step rfl (fun w hr => ?_)
  replace hF := (wb_rl fx hq) hF hr
  clear hr
  rw [stepG_seq]
  simp only [goes_go]
  refine ⟨hdq_idle _ _, ?_⟩
  refine Goes.step rfl (fun w hr => ?_)
  replace hF := (wb_rl fx hq) hF hr
  clear hr
  rw [stepG_region]
  simp only [goes_go, List.size_toArray, List.length_cons, List.length_nil, Nat.reduceAdd, Nat.zero_add, List.range, List.range.loop]
  refine ⟨hdq_idle _ _, ?_⟩
  refine Goes.step rfl (fun w hr => ?_)
  replace hF := (wb_rl fx hq) hF hr
  clear hr
  refine goes_oper_k rfl rfl (by k_ne) (fun K hK => ?_)
  go_simp
  refine hK _ _ ⟨?_, ?_⟩
  · rw [listed_nil (by simp [go_sem, *])]; exact hdq_idle _ _
  clear hK K
  try walk_nrm
  refine Goes.step rfl (fun w hr => ?_)
  replace hF := (wb_rl fx hq) hF hr
  clear hr
  rw [stepG_region_end]
  simp only [goes_go]
  refine ⟨hdq_idle _ _, ?_⟩
  refine Goes.step rfl (fun w hr => ?_)
  replace hF := (wb_rl fx hq) hF hr
  clear hr
  rw [stepG_seq]
  simp only [goes_go]
  refine ⟨hdq_idle _ _, ?_⟩
  refine Goes.step rfl (fun w hr => ?_)
  replace hF := (wb_rl fx hq) hF hr
  clear hr
  rw [stepG_cond (t := true) (by first | rfl | (simp [Act.eval]; omega))]
  simp only [goes_go, if_true, if_false, Bool.false_eq_true, ↓reduceIte]
  refine ⟨hdq_idle _ _, ?_⟩
  refine Goes.step rfl (fun w hr => ?_)
  replace hF := (wb_rl fx hq) hF hr
  clear hr
  rw [stepG_skip]
  simp only [goes_go]
  refine ⟨hdq_idle _ _, ?_⟩
  refine Goes.step rfl (fun w hr => ?_)
  replace hF := (wb_rl fx hq) hF hr
  clear hr
  rw [stepG_seq]
  simp only [goes_go]
  refine ⟨hdq_idle _ _, ?_⟩
  refine Goes.step rfl (fun w hr => ?_)
  replace hF := (wb_rl fx hq) hF hr
  clear hr
  rw [stepG_block]
  simp only [goes_go]
  refine ⟨hdq_idle _ _, ?_⟩
  refine Goes.step rfl (fun w hr => ?_)
  replace hF := (wb_rl fx hq) hF hr
  clear hr
  rw [stepG_seq]
  simp only [goes_go]
  refine ⟨hdq_idle _ _, ?_⟩
  refine Goes.step rfl (fun w hr => ?_)
  replace hF := (wb_rl fx hq) hF hr
  clear hr
  rw [stepG_region]
  simp only [goes_go, List.size_toArray, List.length_cons, List.length_nil, Nat.reduceAdd, Nat.zero_add, List.range, List.range.loop]
  refine ⟨hdq_idle _ _, ?_⟩
  refine Goes.step rfl (fun w hr => ?_)
  replace hF := (wb_rl fx hq) hF hr
  clear hr
  refine goes_oper_k rfl rfl (by k_ne) (fun K hK => ?_)
  go_simp
  refine hK _ _ ⟨?_, ?_⟩
  · rw [listed_nil (by simp [go_sem, *])]; exact hdq_idle _ _
  clear hK K
  try walk_nrm
  refine Goes.step rfl (fun w hr => ?_)
  replace hF := (wb_rl fx hq) hF hr
  clear hr
  have hc0 := hF.1.kl _ _ hL0
  have hc1 := hF.1.kl _ _ hL1
  refine goes_oper_k rfl rfl (by k_ne) (fun K hK => ?_)
  go_simp
  refine hK _ _ ⟨?_, ?_⟩
  · refine hdq_read (fun e he => ?_)
    have hm := mem_listed he
    simp [go_sem, *] at hm
    rcases hm with rfl | rfl
    · exact ⟨_, rfl, block_of_cell hc0, (fx.nv _ _ hL0).2.1⟩
    · exact ⟨_, rfl, block_of_cell hc1, (fx.nv _ _ hL1).2.1⟩
  clear hK K hc0 hc1
  try walk_nrm
  refine Goes.step rfl (fun w hr => ?_)
  replace hF := (wb_rl fx hq) hF hr
  clear hr
  refine goes_oper_k rfl rfl (by k_ne) (fun K hK => ?_)
  go_simp
  refine hK _ _ ⟨?_, ?_⟩
  · rw [listed_nil (by simp [go_sem, *])]
    exact hdq_alloc (fun a ha => Nat.lt_of_lt_of_le (fx.floor.st a ha) hF.1.size) (fun c hc => Nat.lt_of_lt_of_le (fx.floor.ch c hc) hF.1.size) (fun b o => Nat.lt_of_lt_of_le (fx.floor.wg b o) hF.1.size) (by simp)
  clear hK K
  try walk_nrm
  have hn := hF.1.size
  replace hF : WB X B L Tk (w.alloc (Obj.cells #[.int .i64 0, .string ⟨#[]⟩] 40 (0, 0))) ∧ ((∃ w₀, Q w₀ ∧ w₀.heap.size = w.heap.size ∧ ∀ b, b < w.heap.size → ¬ V b → (w.alloc (Obj.cells #[.int .i64 0, .string ⟨#[]⟩] 40 (0, 0))).heap[b]? = w₀.heap[b]?) ∧ (w.alloc (Obj.cells #[.int .i64 0, .string ⟨#[]⟩] 40 (0, 0))).heap[w.heap.size]? = some (Obj.cells #[.int .i64 0, .string ⟨#[]⟩] 40 (0, 0))) :=
    ⟨hF.1.only fx (onlyEv_alloc X ev w _), ⟨w, hF.2, rfl, fun b hb _ => heap_alloc_old w _ b hb⟩, heap_alloc_new w _⟩
  generalize w.heap.size = xb at *
  generalize w.alloc _ = w at *
  have hxv : ¬ V xb := (fx.floor.ok hn).nv
  have hq1 : ∀ (o : Obj) (w w' : World), Ext V w w' → ((∃ w₀, Q w₀ ∧ w₀.heap.size = xb ∧ ∀ b, b < xb → ¬ V b → w.heap[b]? = w₀.heap[b]?) ∧ w.heap[xb]? = some o) → ((∃ w₀, Q w₀ ∧ w₀.heap.size = xb ∧ ∀ b, b < xb → ¬ V b → w'.heap[b]? = w₀.heap[b]?) ∧ w'.heap[xb]? = some o) := fun o w w' r h => by
    obtain ⟨⟨w₀, h1, h2, h3⟩, h4⟩ := h
    have hlt := (Array.getElem?_eq_some_iff.1 h4).1
    exact ⟨⟨w₀, h1, h2, fun b hb hv => (r.same b (by omega) hv).trans (h3 b hb hv)⟩, (r.same xb hlt hxv).trans h4⟩
  skip
  refine Goes.step rfl (fun w hr => ?_)
  replace hF := (wb_rl fx (hq1 _)) hF hr
  clear hr
  have hb := hF.2.2
  have hc0 : w.cell? ⟨xb, 0, none⟩ = some (.int .i64 0) := by simp [World.cell?, hb]
  have hz0 : w.frozen? ⟨xb, 0, none⟩ = false := by simp [World.frozen?, hb]
  have hb' : (w.setCell ⟨xb, 0, none⟩ (.int .i64 i)).heap[xb]? = some (.cells #[.int .i64 i, .string ⟨#[]⟩] 40 (0, 0)) := by simp [World.setCell, Array.getElem?_modify, hb]
  have hc1 : (w.setCell ⟨xb, 0, none⟩ (.int .i64 i)).cell? ⟨xb, 1, none⟩ = some (.string ⟨#[]⟩) := by simp [World.cell?, hb']
  have hz1 : (w.setCell ⟨xb, 0, none⟩ (.int .i64 i)).frozen? ⟨xb, 1, none⟩ = false := by simp [World.frozen?, hb']
  refine goes_oper_k rfl rfl (by k_ne) (fun K hK => ?_)
  go_simp
  try (unfold stored; go_simp)
  refine hK _ _ ⟨?_, ?_⟩
  · have hok := fx.floor.ok hn
    have hnb : ∀ w : World, ∀ o, w.heap[xb]? = some (.cells o 40 (0, 0)) → ¬ BoxAt X w xb := fun w o h ⟨cs, ty, h1, h2, _⟩ => by
      rw [h] at h1
      cases h1
      rw [fx.bx] at h2
      rcases h2 with ⟨_, _, e | ⟨e, _⟩⟩ | e <;> cases e
    have hlt := (Array.getElem?_eq_some_iff.1 hb).1
    refine hdq_two (xb := xb) (hok.write (a := ⟨xb, 0, none⟩) hlt (hnb w _ hb) (es := #[]) (by simp)) (hok.write (a := ⟨xb, 1, none⟩) (by rw [size_setCell']; exact hlt) (hnb _ _ hb') (es := #[]) (by simp)) (fun e he => ?_) (fun k => hok.sh _ rfl) (fun k hp => hp.elim (fun h => hok.st _ rfl h) fun h => hnb w _ hb h.2.2) (by rw [size_setCell', size_setCell']; exact hlt)
    have hm := mem_listed he
    simp [go_sem, storedEv, events_store_int, events_store_str, *] at hm
    rcases hm with rfl | rfl
    · exact ⟨0, rfl⟩
    · exact ⟨1, rfl⟩
  clear hK K hc0 hz0 hc1 hz1
  try walk_nrm
  have hne : ∀ {b : Nat}, b ≠ xb → ((w.setCell ⟨xb, 0, none⟩ (.int .i64 i)).setCell ⟨xb, 1, none⟩ (.string s)).heap[b]? = w.heap[b]? := fun h => (heap_setCell_ne _ _ _ h).trans (heap_setCell_ne _ _ _ h)
  have hb2 : ((w.setCell ⟨xb, 0, none⟩ (.int .i64 i)).setCell ⟨xb, 1, none⟩ (.string s)).heap[xb]? = some (.cells #[.int .i64 i, .string s] 40 (0, 0)) := by
    have h0 : ((w.setCell ⟨xb, 0, none⟩ (.int .i64 i)).setCell ⟨xb, 1, none⟩ (.string s)).heap[xb]? = ((w.setCell ⟨xb, 0, none⟩ (.int .i64 i)).heap[xb]?).map (fun o => ((w.setCell ⟨xb, 0, none⟩ (.int .i64 i)).setCell ⟨xb, 1, none⟩ (.string s)).heap[xb]?.getD o) := by rw [hb']; simp [World.setCell, Array.getElem?_modify, hb]
    rw [h0, hb']
    simp [World.setCell, Array.getElem?_modify, hb]
  replace hF : WB X B L Tk ((w.setCell ⟨xb, 0, none⟩ (.int .i64 i)).setCell ⟨xb, 1, none⟩ (.string s)) ∧ ((∃ w₀, Q w₀ ∧ w₀.heap.size = xb ∧ ∀ b, b < xb → ¬ V b → ((w.setCell ⟨xb, 0, none⟩ (.int .i64 i)).setCell ⟨xb, 1, none⟩ (.string s)).heap[b]? = w₀.heap[b]?) ∧ ((w.setCell ⟨xb, 0, none⟩ (.int .i64 i)).setCell ⟨xb, 1, none⟩ (.string s)).heap[xb]? = some (.cells #[.int .i64 i, .string s] 40 (0, 0))) := by
    refine ⟨hF.1.only fx ⟨by rw [size_setCell', size_setCell']; exact Nat.le_refl _, fun b _ _ h => hne fun e => ?_⟩, ?_, hb2⟩
    · subst e
      rcases h with h | h | ⟨a, h, e⟩
      · exact h _ hb
      · exact (fx.floor.ok hn).ex h
      · exact (fx.floor.ok hn).st a e h
    · obtain ⟨w₀, h1, h2, h3⟩ := hF.2.1
      exact ⟨w₀, h1, h2, fun b hb hv => (hne (by omega)).trans (h3 b hb hv)⟩
  clear hb hb' hb2 hne
  generalize (w.setCell ⟨xb, 0, none⟩ (.int .i64 i)).setCell ⟨xb, 1, none⟩ (.string s) = w at *
  refine Goes.step rfl (fun w hr => ?_)
  replace hF := (wb_rl fx (hq1 _)) hF hr
  clear hr
  rw [stepG_region_end]
  simp only [goes_go]
  refine ⟨hdq_idle _ _, ?_⟩
  refine Goes.step rfl (fun w hr => ?_)
  replace hF := (wb_rl fx (hq1 _)) hF hr
  clear hr
  rw [stepG_region]
  simp only [goes_go, List.size_toArray, List.length_cons, List.length_nil, Nat.reduceAdd, Nat.zero_add, List.range, List.range.loop]
  refine ⟨hdq_idle _ _, ?_⟩
  refine Goes.step rfl (fun w hr => ?_)
  replace hF := (wb_rl fx (hq1 _)) hF hr
  clear hr
  refine goes_oper_k rfl rfl (by k_ne) (fun K hK => ?_)
  go_simp
  refine hK _ _ ⟨?_, ?_⟩
  · rw [listed_nil (by simp [go_sem])]; exact hdq_idle _ _
  clear hK K
  try walk_nrm
  refine Goes.step rfl (fun w hr => ?_)
  replace hF := (wb_rl fx (hq1 _)) hF hr
  clear hr
  refine goes_oper_k rfl rfl (by k_ne) (fun K hK => ?_)
  go_simp
  refine hK _ _ ⟨?_, ?_⟩
  · rw [listed_nil (by simp [go_sem])]; exact hdq_idle _ _
  clear hK K
  try walk_nrm
  refine Goes.step rfl (fun w hr => ?_)
  replace hF := (wb_rl fx (hq1 _)) hF hr
  clear hr
  have hc := (show w.cell? ⟨xb, 1, none⟩ = some (.string s) by simp [World.cell?, hF.2.2])
  refine goes_oper_k rfl rfl (by k_ne) (fun K hK => ?_)
  go_simp
  refine hK _ _ ⟨?_, ?_⟩
  · refine hdq_read (fun e he => ?_)
    have hm := mem_listed he
    simp [go_sem, *] at hm
    exact ⟨_, hm, block_of_cell hc, (fun hs => (fx.floor.ok hn).sh _ rfl hs)⟩
  clear hK K hc
  try walk_nrm
  refine Goes.step rfl (fun w hr => ?_)
  replace hF := (wb_rl fx (hq1 _)) hF hr
  clear hr
  refine goes_callc rfl rfl (by k_ne) rfl rfl Try.func41 rfl rfl ⟨hdq_idle _ _, ?_⟩
  simp only [Try.f41]
  walk_nrm
  refine Goes.stop (fun w hr => ⟨⟨_, ⟨?_, ?_, ?_, ?_, ?_⟩, rfl⟩, (wb_rl fx (hq1 _) hF hr).1, ?_⟩)
  iterate 5 rfl
  obtain ⟨⟨w₀, h1, h2, h3⟩, h4⟩ := (wb_rl fx (hq1 _) hF hr).2
  exact hQo w₀ w h1 (by have := (Array.getElem?_eq_some_iff.1 h4).1; omega) (fun b hb hv => h3 b (by omega) hv)
end
end
end Go.Proofs.Ytggfcdhkgldbfaa
