/-
  PARTS of a claim, merged by segs.py: NwG2.
-/
import Derived.Test.YtggfcdhkgldbfaaN11
namespace Go.Proofs.Ytggfcdhkgldbfaa
set_option linter.unusedSimpArgs false
set_option linter.unusedVariables false

/-! ### NwG2 -/
section
set_option linter.unusedSimpArgs false
open Go Go.Conc Go.RowKit Go.ConcR.Gen Cw

noncomputable def bodyS : Code := Try.f23.body.getD .skip
/-- At step's entry. -/
noncomputable def inS (bs : Nat) (cs : List Frame) : Goroutine := G ((base 23).at ⟨#[pb bs, undef, undef, undef, undef, undef, undef, undef, undef, undef, undef, undef, undef, undef, undef, undef, undef, undef, undef], []⟩ [.code bodyS]) cs
/-- At its send. -/
noncomputable def atS (bs cr : Nat) (cs : List Frame) : Goroutine :=
  G ((base 23).at ⟨#[pb bs, undef, pb bs, pb bs, .pointer (some ⟨bs, 2, none⟩), .bool false, pb bs, pb bs, pb bs, .chan (some cr), .agg #[], undef, undef, undef, undef, undef, undef, undef, undef], []⟩ [.inRegion (opsOf (lf (rt bodyS))) [5], .code (rt (rt bodyS))]) cs
/-- At its receive. -/
noncomputable def atSr (bs cr cp : Nat) (cs : List Frame) : Goroutine :=
  G ((base 23).at ⟨#[pb bs, undef, pb bs, pb bs, .pointer (some ⟨bs, 2, none⟩), .bool false, pb bs, pb bs, pb bs, .chan (some cr), .agg #[], pb bs, pb bs, pb bs, .pointer (some ⟨bs, 1, none⟩), .chan (some cp), undef, undef, undef], []⟩ [.inRegion (opsOf (rt (rt bodyS))) [5, 6, 7, 8]]) cs
theorem events_store_bool (P : Program) (w : World) (es : Array Event) (a : Addr) (m : Mode) (b : Bool) : (store a (.bool b) m).events P w es = storedEv P w es a (.bool b) m := events_store P w es a _ m rfl
theorem bld0 (w : World) : (Instr.build 57 #[]).run Try.prog w = .ok (.agg #[]) w := run_build w _ _ _ (by kernel_rfl)
theorem bld0E (w : World) (es : Array Event) : (Instr.build 57 #[]).events Try.prog w es = es := by
  obtain ⟨it, hit, h1⟩ : ∃ it, Try.prog.info? 57 = some it ∧ it.zero = some (.agg #[]) := by
    have h : (Try.prog.info? 57).map (·.zero) = some (some (.agg #[])) := by kernel_rfl
    obtain ⟨i, hi, hb⟩ := Option.map_eq_some_iff.1 h
    exact ⟨i, hi, hb⟩
  simp [Instr.build, go_sem, sizeOf, typeInfo, zeroValue, hit, h1]

section
variable {X : Cx} {R : World → World → Prop} {Q : World → Prop} {mn : Bool} {bs cr cp : Nat}

set_option maxRecDepth 100000 in
/-- To the send. -/
theorem s_send (hrl : ∀ w w', Q w → R w w' → Q w') (h2 : ∀ w, Q w → w.cell? ⟨bs, 2, none⟩ = some (.bool false)) (h0 : ∀ w, Q w → w.cell? ⟨bs, 0, none⟩ = some (.chan (some cr))) (hsh : ∀ k, ¬ X.Sh (.cell ⟨bs, k, none⟩)) (cs : List Frame) (w : World) (hF : Q w) :
    Goes Try.prog mn R (HDq X) (fun g w => g = atS bs cr cs ∧ Q w) 20 (inS bs cs) w := by
  unfold inS
  simp only [bodyS, Try.f23, Option.getD_some]
  refine Goes.step rfl (fun w hr => ?_)
  replace hF := (hrl _ _) hF hr
  clear hr
  rw [stepG_seq]
  simp only [goes_go]
  refine ⟨hdq_idle _ _, ?_⟩
  refine Goes.step rfl (fun w hr => ?_)
  replace hF := (hrl _ _) hF hr
  clear hr
  rw [stepG_seq]
  simp only [goes_go]
  refine ⟨hdq_idle _ _, ?_⟩
  refine Goes.step rfl (fun w hr => ?_)
  replace hF := (hrl _ _) hF hr
  clear hr
  rw [stepG_region]
  simp only [goes_go, List.size_toArray, List.length_cons, List.length_nil, Nat.reduceAdd, Nat.zero_add, List.range, List.range.loop]
  refine ⟨hdq_idle _ _, ?_⟩
  refine Goes.step rfl (fun w hr => ?_)
  replace hF := (hrl _ _) hF hr
  clear hr
  refine goes_oper_k rfl rfl (by k_ne) (fun K hK => ?_)
  go_simp
  refine hK _ _ ⟨?_, ?_⟩
  · rw [listed_nil (by simp [go_sem])]; exact hdq_idle _ _
  clear hK K
  try walk_nrm
  refine Goes.step rfl (fun w hr => ?_)
  replace hF := (hrl _ _) hF hr
  clear hr
  refine goes_oper_k rfl rfl (by k_ne) (fun K hK => ?_)
  go_simp
  refine hK _ _ ⟨?_, ?_⟩
  · rw [listed_nil (by simp [go_sem])]; exact hdq_idle _ _
  clear hK K
  try walk_nrm
  refine Goes.step rfl (fun w hr => ?_)
  replace hF := (hrl _ _) hF hr
  clear hr
  refine goes_oper_k rfl rfl (by k_ne) (fun K hK => ?_)
  go_simp
  refine hK _ _ ⟨?_, ?_⟩
  · rw [listed_nil (by simp [go_sem])]; exact hdq_idle _ _
  clear hK K
  try walk_nrm
  refine Goes.step rfl (fun w hr => ?_)
  replace hF := (hrl _ _) hF hr
  clear hr
  have hc := h2 w hF
  refine goes_oper_k rfl rfl (by k_ne) (fun K hK => ?_)
  go_simp
  refine hK _ _ ⟨?_, ?_⟩
  · refine hdq_read (fun e he => ?_)
    have hm := mem_listed he
    simp [go_sem, *] at hm
    exact ⟨_, hm, block_of_cell hc, hsh 2⟩
  clear hK K hc
  try walk_nrm
  refine Goes.step rfl (fun w hr => ?_)
  replace hF := (hrl _ _) hF hr
  clear hr
  rw [stepG_region_end]
  simp only [goes_go]
  refine ⟨hdq_idle _ _, ?_⟩
  refine Goes.step rfl (fun w hr => ?_)
  replace hF := (hrl _ _) hF hr
  clear hr
  rw [stepG_cond (t := false) (by first | rfl | (simp [Act.eval]; omega))]
  simp only [goes_go, if_true, if_false, Bool.false_eq_true, ↓reduceIte]
  refine ⟨hdq_idle _ _, ?_⟩
  refine Goes.step rfl (fun w hr => ?_)
  replace hF := (hrl _ _) hF hr
  clear hr
  rw [stepG_skip]
  simp only [goes_go]
  refine ⟨hdq_idle _ _, ?_⟩
  refine Goes.step rfl (fun w hr => ?_)
  replace hF := (hrl _ _) hF hr
  clear hr
  rw [stepG_seq]
  simp only [goes_go]
  refine ⟨hdq_idle _ _, ?_⟩
  refine Goes.step rfl (fun w hr => ?_)
  replace hF := (hrl _ _) hF hr
  clear hr
  rw [stepG_region]
  simp only [goes_go, List.size_toArray, List.length_cons, List.length_nil, Nat.reduceAdd, Nat.zero_add, List.range, List.range.loop]
  refine ⟨hdq_idle _ _, ?_⟩
  refine Goes.step rfl (fun w hr => ?_)
  replace hF := (hrl _ _) hF hr
  clear hr
  refine goes_oper_k rfl rfl (by k_ne) (fun K hK => ?_)
  go_simp
  refine hK _ _ ⟨?_, ?_⟩
  · rw [listed_nil (by simp [go_sem])]; exact hdq_idle _ _
  clear hK K
  try walk_nrm
  refine Goes.step rfl (fun w hr => ?_)
  replace hF := (hrl _ _) hF hr
  clear hr
  refine goes_oper_k rfl rfl (by k_ne) (fun K hK => ?_)
  go_simp
  refine hK _ _ ⟨?_, ?_⟩
  · rw [listed_nil (by simp [go_sem])]; exact hdq_idle _ _
  clear hK K
  try walk_nrm
  refine Goes.step rfl (fun w hr => ?_)
  replace hF := (hrl _ _) hF hr
  clear hr
  refine goes_oper_k rfl rfl (by k_ne) (fun K hK => ?_)
  go_simp
  refine hK _ _ ⟨?_, ?_⟩
  · rw [listed_nil (by simp [go_sem])]; exact hdq_idle _ _
  clear hK K
  try walk_nrm
  refine Goes.step rfl (fun w hr => ?_)
  replace hF := (hrl _ _) hF hr
  clear hr
  have hc := h0 w hF
  refine goes_oper_k rfl rfl (by k_ne) (fun K hK => ?_)
  go_simp
  refine hK _ _ ⟨?_, ?_⟩
  · refine hdq_read (fun e he => ?_)
    have hm := mem_listed he
    simp [go_sem, *] at hm
    exact ⟨_, hm, block_of_cell hc, hsh 0⟩
  clear hK K hc
  try walk_nrm
  refine Goes.step rfl (fun w hr => ?_)
  replace hF := (hrl _ _) hF hr
  clear hr
  have hb := bld0 w
  have hbe := bld0E w #[]
  refine goes_oper_k rfl rfl (by k_ne) (fun K hK => ?_)
  go_simp
  refine hK _ _ ⟨?_, ?_⟩
  · rw [listed_nil (by simp [go_sem, *])]; exact hdq_idle _ _
  clear hK K hb hbe
  try walk_nrm
  refine Goes.stop (fun w hr => ⟨rfl, hrl _ _ hF hr⟩)

set_option maxRecDepth 100000 in
/-- A worker that has ended: step returns. -/
theorem s_ended {Stop : Goroutine → World → Prop} {m : Nat} (hrl : ∀ w w', Q w → R w w' → Q w') (h2 : ∀ w, Q w → w.cell? ⟨bs, 2, none⟩ = some (.bool true)) (hsh : ∀ k, ¬ X.Sh (.cell ⟨bs, k, none⟩)) {b₀ : Frame} {a₀ : Act} {ops : Array Oper} {j : Nat} {rest : List Nat} {k : List Item} (cs : List Frame) (w : World) (hF : Q w)
    (hN : ∀ w, Q w → Goes Try.prog mn R (HDq X) Stop m (G (b₀.at (a₀.put ((ops[j]?).bind (·.dst)) (.tuple #[])) (.inRegion ops rest :: k)) cs) w) :
    Goes Try.prog mn R (HDq X) Stop (m + 11) (inS bs (b₀.at a₀ (.inRegion ops (j :: rest) :: k) :: cs)) w := by
  unfold inS
  simp only [bodyS, Try.f23, Option.getD_some]
  refine Goes.step rfl (fun w hr => ?_)
  replace hF := (hrl _ _) hF hr
  clear hr
  rw [stepG_seq]
  simp only [goes_go]
  refine ⟨hdq_idle _ _, ?_⟩
  refine Goes.step rfl (fun w hr => ?_)
  replace hF := (hrl _ _) hF hr
  clear hr
  rw [stepG_seq]
  simp only [goes_go]
  refine ⟨hdq_idle _ _, ?_⟩
  refine Goes.step rfl (fun w hr => ?_)
  replace hF := (hrl _ _) hF hr
  clear hr
  rw [stepG_region]
  simp only [goes_go, List.size_toArray, List.length_cons, List.length_nil, Nat.reduceAdd, Nat.zero_add, List.range, List.range.loop]
  refine ⟨hdq_idle _ _, ?_⟩
  refine Goes.step rfl (fun w hr => ?_)
  replace hF := (hrl _ _) hF hr
  clear hr
  refine goes_oper_k rfl rfl (by k_ne) (fun K hK => ?_)
  go_simp
  refine hK _ _ ⟨?_, ?_⟩
  · rw [listed_nil (by simp [go_sem])]; exact hdq_idle _ _
  clear hK K
  try walk_nrm
  refine Goes.step rfl (fun w hr => ?_)
  replace hF := (hrl _ _) hF hr
  clear hr
  refine goes_oper_k rfl rfl (by k_ne) (fun K hK => ?_)
  go_simp
  refine hK _ _ ⟨?_, ?_⟩
  · rw [listed_nil (by simp [go_sem])]; exact hdq_idle _ _
  clear hK K
  try walk_nrm
  refine Goes.step rfl (fun w hr => ?_)
  replace hF := (hrl _ _) hF hr
  clear hr
  refine goes_oper_k rfl rfl (by k_ne) (fun K hK => ?_)
  go_simp
  refine hK _ _ ⟨?_, ?_⟩
  · rw [listed_nil (by simp [go_sem])]; exact hdq_idle _ _
  clear hK K
  try walk_nrm
  refine Goes.step rfl (fun w hr => ?_)
  replace hF := (hrl _ _) hF hr
  clear hr
  have hc := h2 w hF
  refine goes_oper_k rfl rfl (by k_ne) (fun K hK => ?_)
  go_simp
  refine hK _ _ ⟨?_, ?_⟩
  · refine hdq_read (fun e he => ?_)
    have hm := mem_listed he
    simp [go_sem, *] at hm
    exact ⟨_, hm, block_of_cell hc, hsh 2⟩
  clear hK K hc
  try walk_nrm
  refine Goes.step rfl (fun w hr => ?_)
  replace hF := (hrl _ _) hF hr
  clear hr
  rw [stepG_region_end]
  simp only [goes_go]
  refine ⟨hdq_idle _ _, ?_⟩
  refine Goes.step rfl (fun w hr => ?_)
  replace hF := (hrl _ _) hF hr
  clear hr
  rw [stepG_cond (t := true) (by first | rfl | (simp [Act.eval]; omega))]
  simp only [goes_go, if_true, if_false, Bool.false_eq_true, ↓reduceIte]
  refine ⟨hdq_idle _ _, ?_⟩
  refine Goes.step rfl (fun w hr => ?_)
  replace hF := (hrl _ _) hF hr
  clear hr
  rw [stepG_ret']
  simp only [goes_go]
  refine ⟨hdq_idle _ _, ?_⟩
  refine Goes.step rfl (fun w hr => ?_)
  replace hF := (hrl _ _) hF hr
  clear hr
  refine goes_leave0 rfl rfl Try.func23 rfl ⟨hdq_idle _ _, ?_⟩
  exact hN _ hF

set_option maxRecDepth 100000 in
/-- Behind the send main is on its way to its seat. -/
theorem s_back (home : Hm) (L : Addr → Value → Prop) (h1 : L ⟨bs, 1, none⟩ (.chan (some cp))) (cs : List Frame) (hh : home (atSr bs cr cp cs) L) :
    Cw.Way Try.prog BxW mn cp (.bool false) home 20 L (Go.Conc.served (atS bs cr cs) undef) := by
  unfold atS
  rw [served_fr, Frame.finish_at]
  simp only [bodyS, lf, rt, opsOf, Try.f23, Option.getD_some]
  walk_nrm
  refine Cw.Way.goes rfl (fun w hw => ?_)
  rw [stepG_region_end]
  simp only [goes_go]
  refine .inl ⟨by trivial, by simp, ?_⟩
  refine Cw.Way.goes rfl (fun w hw => ?_)
  rw [stepG_region]
  simp only [goes_go, List.size_toArray, List.length_cons, List.length_nil, Nat.reduceAdd, Nat.zero_add, List.range, List.range.loop]
  refine .inl ⟨by trivial, by simp, ?_⟩
  refine Cw.Way.goes rfl (fun w hw => ?_)
  refine goes_oper_k rfl rfl (by k_ne) (fun K hK => ?_)
  go_simp
  refine hK _ _ (.inl ⟨rfl, ?_, ?_⟩)
  · rw [listed_nil (by simp [go_sem])]; simp
  clear hK K
  try walk_nrm
  refine Cw.Way.goes rfl (fun w hw => ?_)
  refine goes_oper_k rfl rfl (by k_ne) (fun K hK => ?_)
  go_simp
  refine hK _ _ (.inl ⟨rfl, ?_, ?_⟩)
  · rw [listed_nil (by simp [go_sem])]; simp
  clear hK K
  try walk_nrm
  refine Cw.Way.goes rfl (fun w hw => ?_)
  refine goes_oper_k rfl rfl (by k_ne) (fun K hK => ?_)
  go_simp
  refine hK _ _ (.inl ⟨rfl, ?_, ?_⟩)
  · rw [listed_nil (by simp [go_sem])]; simp
  clear hK K
  try walk_nrm
  refine Cw.Way.goes rfl (fun w hw => ?_)
  refine goes_oper_k rfl rfl (by k_ne) (fun K hK => ?_)
  go_simp
  refine hK _ _ (.inl ⟨rfl, ?_, ?_⟩)
  · rw [listed_nil (by simp [go_sem])]; simp
  clear hK K
  try walk_nrm
  refine Cw.Way.goes rfl (fun w hw => ?_)
  have hl := h1
  have hc := hw _ _ hl
  refine goes_oper_k rfl rfl (by k_ne) (fun K hK => ?_)
  go_simp
  refine hK _ _ (.inl ⟨rfl, ?_, ?_⟩)
  · intro e he
    have hm := mem_listed he
    simp [go_sem, *] at hm
    exact ⟨_, _, hm, hl⟩
  clear hK K hc hl
  try walk_nrm
  refine Cw.Way.stop (atS_of rfl rfl (by k_ne) (fun w => ?_) (fun w => ?_) hh)
  · simp [go_sem, execOp, rcase, Act.eval]
  · simp [go_sem, execOp, Act.eval]

set_option maxRecDepth 100000 in
/-- Served, main notes whether the worker has ended, and step returns. -/
theorem s_fin {Q' : World → Prop} {Stop : Goroutine → World → Prop} {m : Nat} (v : Bool) (hrl : ∀ w w', Q w → R w w' → Q w') (hrl' : ∀ w w', Q' w → R w w' → Q' w') (h2 : ∀ w, Q w → ∃ u, w.cell? ⟨bs, 2, none⟩ = some u) (hfz : ∀ w, Q w → w.frozen? ⟨bs, 2, none⟩ = false)
    (hwr : ∀ w, Q w → ∀ es : Array Event, (∀ e ∈ es, e = ⟨.cell ⟨bs, 2, none⟩, true, false⟩) → HDq X w (w.setCell ⟨bs, 2, none⟩ (.bool v)) es ∧ Q' (w.setCell ⟨bs, 2, none⟩ (.bool v)))
    {b₀ : Frame} {a₀ : Act} {ops : Array Oper} {j : Nat} {rest : List Nat} {k : List Item} (cs : List Frame) (w : World) (hF : Q w)
    (hN : ∀ w, Q' w → Goes Try.prog mn R (HDq X) Stop m (G (b₀.at (a₀.put ((ops[j]?).bind (·.dst)) (.tuple #[])) (.inRegion ops rest :: k)) cs) w) :
    Goes Try.prog mn R (HDq X) Stop (m + 6) (Go.Conc.served (atSr bs cr cp (b₀.at a₀ (.inRegion ops (j :: rest) :: k) :: cs)) (.bool v)) w := by
  unfold atSr
  rw [served_fr, Frame.finish_at]
  simp only [bodyS, rt, opsOf, Try.f23, Option.getD_some]
  walk_nrm
  refine Goes.step rfl (fun w hr => ?_)
  replace hF := (hrl _ _) hF hr
  clear hr
  refine goes_oper_k rfl rfl (by k_ne) (fun K hK => ?_)
  go_simp
  refine hK _ _ ⟨?_, ?_⟩
  · rw [listed_nil (by simp [go_sem])]; exact hdq_idle _ _
  clear hK K
  try walk_nrm
  refine Goes.step rfl (fun w hr => ?_)
  replace hF := (hrl _ _) hF hr
  clear hr
  refine goes_oper_k rfl rfl (by k_ne) (fun K hK => ?_)
  go_simp
  refine hK _ _ ⟨?_, ?_⟩
  · rw [listed_nil (by simp [go_sem])]; exact hdq_idle _ _
  clear hK K
  try walk_nrm
  refine Goes.step rfl (fun w hr => ?_)
  replace hF := (hrl _ _) hF hr
  clear hr
  obtain ⟨u, hc⟩ := h2 w hF
  have hz := hfz w hF
  refine goes_oper_k rfl rfl (by k_ne) (fun K hK => ?_)
  go_simp
  try (unfold stored; go_simp)
  have hes := hwr w hF
  replace hF := (hwr w hF #[] (by simp)).2
  refine hK _ _ ⟨?_, ?_⟩
  · refine (hes _ (fun e he => ?_)).1
    have hm := mem_listed he
    simp [go_sem, events_store_bool, storedEv, *] at hm
    exact hm
  clear hK K hc hz hes
  try walk_nrm
  generalize w.setCell ⟨bs, 2, none⟩ (.bool v) = w at *
  refine Goes.step rfl (fun w hr => ?_)
  replace hF := (hrl' _ _) hF hr
  clear hr
  rw [stepG_region_end]
  simp only [goes_go]
  refine ⟨hdq_idle _ _, ?_⟩
  refine Goes.step rfl (fun w hr => ?_)
  replace hF := (hrl' _ _) hF hr
  clear hr
  rw [stepG_end]
  simp only [goes_go]
  refine ⟨hdq_idle _ _, ?_⟩
  refine Goes.step rfl (fun w hr => ?_)
  replace hF := (hrl' _ _) hF hr
  clear hr
  refine goes_leave0 rfl rfl Try.func23 rfl ⟨hdq_idle _ _, ?_⟩
  exact hN _ hF
end
theorem atS_send (mn : Bool) (bs cr : Nat) (cs : List Frame) (w : World) : stepG Try.prog mn (atS bs cr cs) w = .comm (atS bs cr cs) #[scase cr (.agg #[]) (.tuple #[])] true .send w #[] := by
  unfold atS
  simp only [bodyS, lf, rt, opsOf, Try.f23, Option.getD_some]
  refine (stepG_comm rfl rfl (by k_ne) (w' := w) (cases := #[scase cr (.agg #[]) (.tuple #[])]) (blocking := true) (shape := .send) ?_).trans ?_
  · simp [go_sem, execOp, scase, Act.eval]
  · rw [listed_nil (by simp [go_sem, execOp, Act.eval])]
end
end Go.Proofs.Ytggfcdhkgldbfaa
