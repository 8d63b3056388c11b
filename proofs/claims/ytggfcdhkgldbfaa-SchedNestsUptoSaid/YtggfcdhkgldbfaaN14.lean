/-
  PARTS of a claim, merged by segs.py: NwR2.
-/
import Derived.Test.YtggfcdhkgldbfaaN13
namespace Go.Proofs.Ytggfcdhkgldbfaa
set_option linter.unusedSimpArgs false
set_option linter.unusedVariables false

/-! ### NwR2 -/
section
set_option linter.unusedSimpArgs false
open Go Go.Conc Go.RowKit Go.ConcR.Gen Cw

section
variable {X : Cx} {R : World → World → Prop} {Q : World → Prop} {mn : Bool}

set_option maxRecDepth 100000 in
/-- Worker number k: to the inner loop's head. -/
theorem r_in {Stop : Goroutine → World → Prop} {m : Nat} (hrl : ∀ w w', Q w → R w w' → Q w') {wb n ncap k bs wg ev : Nat} (hk : k < n) (hw : ∀ w, Q w → w.cell? ⟨wb, k, none⟩ = some (pb bs)) (hsw : ∀ k, ¬ X.Sh (.cell ⟨wb, k, none⟩)) (cs : List Frame) (g : Goroutine) (w : World) (hF : Q w)
    (hg : Head3 (.slice (some ⟨wb, 0, none⟩) n ncap) n k wg ev cs g) (hN : ∀ g w, Head4 (.slice (some ⟨wb, 0, none⟩) n ncap) n k wg ev bs cs g → Q w → Goes Try.prog mn R (HDq X) Stop m g w) :
    Goes Try.prog mn R (HDq X) Stop (m + 17) g w := by
  obtain ⟨T, hT, h6, h8, h63, h64, h65, rfl⟩ := hg
  obtain ⟨v0, v1, v2, v3, v4, v5, v6, v7, v8, v9, v10, v11, v12, v13, v14, v15, v16, v17, v18, v19, v20, v21, v22, v23, v24, v25, v26, v27, v28, v29, v30, v31, v32, v33, v34, v35, v36, v37, v38, v39, v40, v41, v42, v43, v44, v45, v46, v47, v48, v49, v50, v51, v52, v53, v54, v55, v56, v57, v58, v59, v60, v61, v62, v63, v64, v65, v66, v67, v68, v69, v70, v71, v72, v73, v74, v75, v76, v77, v78, rfl⟩ := array79 T hT
  simp only [List.getElem?_toArray, List.getElem?_cons_zero, List.getElem?_cons_succ, Option.some.injEq] at h6 h8 h63 h64 h65
  subst h6
  subst h8
  subst h63
  subst h64
  subst h65
  have hki : (k : Int) < (n : Int) := by omega
  simp only [rnd3, cd9, cd8, bodyM, inner, rt, lf, Try.f10, Option.getD_some]
  refine Goes.step rfl (fun w hr => ?_)
  replace hF := (hrl _ _) hF hr
  clear hr
  rw [stepG_seq]
  simp only [goes_go]
  refine ⟨hdq_idle _ _, ?_⟩
  refine Goes.step rfl (fun w hr => ?_)
  replace hF := (hrl _ _) hF hr
  clear hr
  rw [stepG_region]
  simp only [goes_go, List.size_toArray, List.length_cons, List.length_nil, Nat.reduceAdd, Nat.zero_add, List.range, List.range.loop]
  refine ⟨hdq_idle _ _, ?_⟩
  refine Goes.step rfl (fun w hr => ?_)
  replace hF := (hrl _ _) hF hr
  clear hr
  refine goes_oper_k rfl rfl (by k_ne) (fun K hK => ?_)
  go_simp
  refine hK _ _ ⟨?_, ?_⟩
  · rw [listed_nil (by simp [go_sem])]; exact hdq_idle _ _
  clear hK K
  try walk_nrm
  refine Goes.step rfl (fun w hr => ?_)
  replace hF := (hrl _ _) hF hr
  clear hr
  rw [stepG_region_end]
  simp only [goes_go]
  refine ⟨hdq_idle _ _, ?_⟩
  refine Goes.step rfl (fun w hr => ?_)
  replace hF := (hrl _ _) hF hr
  clear hr
  rw [stepG_seq]
  simp only [goes_go]
  refine ⟨hdq_idle _ _, ?_⟩
  refine Goes.step rfl (fun w hr => ?_)
  replace hF := (hrl _ _) hF hr
  clear hr
  rw [stepG_cond (t := true) (by first | rfl | (simp [Act.eval]; omega))]
  simp only [goes_go, if_true, if_false, Bool.false_eq_true, ↓reduceIte]
  refine ⟨hdq_idle _ _, ?_⟩
  refine Goes.step rfl (fun w hr => ?_)
  replace hF := (hrl _ _) hF hr
  clear hr
  rw [stepG_skip]
  simp only [goes_go]
  refine ⟨hdq_idle _ _, ?_⟩
  refine Goes.step rfl (fun w hr => ?_)
  replace hF := (hrl _ _) hF hr
  clear hr
  rw [stepG_seq]
  simp only [goes_go]
  refine ⟨hdq_idle _ _, ?_⟩
  refine Goes.step rfl (fun w hr => ?_)
  replace hF := (hrl _ _) hF hr
  clear hr
  rw [stepG_block]
  simp only [goes_go]
  refine ⟨hdq_idle _ _, ?_⟩
  refine Goes.step rfl (fun w hr => ?_)
  replace hF := (hrl _ _) hF hr
  clear hr
  rw [stepG_seq]
  simp only [goes_go]
  refine ⟨hdq_idle _ _, ?_⟩
  refine Goes.step rfl (fun w hr => ?_)
  replace hF := (hrl _ _) hF hr
  clear hr
  rw [stepG_region]
  simp only [goes_go, List.size_toArray, List.length_cons, List.length_nil, Nat.reduceAdd, Nat.zero_add, List.range, List.range.loop]
  refine ⟨hdq_idle _ _, ?_⟩
  refine Goes.step rfl (fun w hr => ?_)
  replace hF := (hrl _ _) hF hr
  clear hr
  refine goes_oper_k rfl rfl (by k_ne) (fun K hK => ?_)
  go_simp
  refine hK _ _ ⟨?_, ?_⟩
  · rw [listed_nil (by simp [go_sem, *])]; exact hdq_idle _ _
  clear hK K
  try walk_nrm
  refine Goes.step rfl (fun w hr => ?_)
  replace hF := (hrl _ _) hF hr
  clear hr
  have hc := hw w hF
  refine goes_oper_k rfl rfl (by k_ne) (fun K hK => ?_)
  go_simp
  refine hK _ _ ⟨?_, ?_⟩
  · refine hdq_read (fun e he => ?_)
    have hm := mem_listed he
    simp [go_sem, *] at hm
    exact ⟨_, hm, block_of_cell hc, hsw _⟩
  clear hK K hc
  try walk_nrm
  refine Goes.step rfl (fun w hr => ?_)
  replace hF := (hrl _ _) hF hr
  clear hr
  refine goes_oper_k rfl rfl (by k_ne) (fun K hK => ?_)
  go_simp
  refine hK _ _ ⟨?_, ?_⟩
  · rw [listed_nil (by simp [go_sem])]; exact hdq_idle _ _
  clear hK K
  try walk_nrm
  refine Goes.step rfl (fun w hr => ?_)
  replace hF := (hrl _ _) hF hr
  clear hr
  rw [stepG_region_end]
  simp only [goes_go]
  refine ⟨hdq_idle _ _, ?_⟩
  refine Goes.step rfl (fun w hr => ?_)
  replace hF := (hrl _ _) hF hr
  clear hr
  rw [stepG_block]
  simp only [goes_go]
  refine ⟨hdq_idle _ _, ?_⟩
  refine Goes.step rfl (fun w hr => ?_)
  replace hF := (hrl _ _) hF hr
  clear hr
  rw [stepG_loop]
  simp only [goes_go]
  refine ⟨hdq_idle _ _, ?_⟩
  refine hN _ _ ⟨_, ?_, ?_, ?_, ?_, ?_, ?_, ?_, rfl⟩ hF <;> rfl

set_option maxRecDepth 100000 in
/-- It has ended: to the next. -/
theorem r_out {Stop : Goroutine → World → Prop} {m : Nat} (hrl : ∀ w w', Q w → R w w' → Q w') {wk : Value} {n k bs wg ev : Nat} (hk : k < n) (hn : n < 9223372036854775807) (h2 : ∀ w, Q w → w.cell? ⟨bs, 2, none⟩ = some (.bool true)) (hsh : ∀ k, ¬ X.Sh (.cell ⟨bs, k, none⟩)) (cs : List Frame) (g : Goroutine) (w : World) (hF : Q w)
    (hg : Head4 wk n k wg ev bs cs g) (hN : ∀ g w, Head3 wk n (k + 1) wg ev cs g → Q w → Goes Try.prog mn R (HDq X) Stop m g w) :
    Goes Try.prog mn R (HDq X) Stop (m + 17) g w := by
  have hwr : IntKind.i64.wrap ((k : Int) + 1) = ((k + 1 : Nat) : Int) := by rw [IntKind.wrap_i64]; omega
  obtain ⟨T, hT, h6, h8, h63, h64, h65, h15, rfl⟩ := hg
  obtain ⟨v0, v1, v2, v3, v4, v5, v6, v7, v8, v9, v10, v11, v12, v13, v14, v15, v16, v17, v18, v19, v20, v21, v22, v23, v24, v25, v26, v27, v28, v29, v30, v31, v32, v33, v34, v35, v36, v37, v38, v39, v40, v41, v42, v43, v44, v45, v46, v47, v48, v49, v50, v51, v52, v53, v54, v55, v56, v57, v58, v59, v60, v61, v62, v63, v64, v65, v66, v67, v68, v69, v70, v71, v72, v73, v74, v75, v76, v77, v78, rfl⟩ := array79 T hT
  simp only [List.getElem?_toArray, List.getElem?_cons_zero, List.getElem?_cons_succ, Option.some.injEq] at h6 h8 h63 h64 h65 h15
  subst h6
  subst h8
  subst h63
  subst h64
  subst h65
  subst h15
  simp only [rnd4, rnd3, cd9, cd8, bodyM, inner, rt, lf, Try.f10, Option.getD_some]
  refine Goes.step rfl (fun w hr => ?_)
  replace hF := (hrl _ _) hF hr
  clear hr
  rw [stepG_seq]
  simp only [goes_go]
  refine ⟨hdq_idle _ _, ?_⟩
  refine Goes.step rfl (fun w hr => ?_)
  replace hF := (hrl _ _) hF hr
  clear hr
  rw [stepG_seq]
  simp only [goes_go]
  refine ⟨hdq_idle _ _, ?_⟩
  refine Goes.step rfl (fun w hr => ?_)
  replace hF := (hrl _ _) hF hr
  clear hr
  rw [stepG_region]
  simp only [goes_go, List.size_toArray, List.length_cons, List.length_nil, Nat.reduceAdd, Nat.zero_add, List.range, List.range.loop]
  refine ⟨hdq_idle _ _, ?_⟩
  refine Goes.step rfl (fun w hr => ?_)
  replace hF := (hrl _ _) hF hr
  clear hr
  refine goes_oper_k rfl rfl (by k_ne) (fun K hK => ?_)
  go_simp
  refine hK _ _ ⟨?_, ?_⟩
  · rw [listed_nil (by simp [go_sem])]; exact hdq_idle _ _
  clear hK K
  try walk_nrm
  refine Goes.step rfl (fun w hr => ?_)
  replace hF := (hrl _ _) hF hr
  clear hr
  refine goes_oper_k rfl rfl (by k_ne) (fun K hK => ?_)
  go_simp
  refine hK _ _ ⟨?_, ?_⟩
  · rw [listed_nil (by simp [go_sem])]; exact hdq_idle _ _
  clear hK K
  try walk_nrm
  refine Goes.step rfl (fun w hr => ?_)
  replace hF := (hrl _ _) hF hr
  clear hr
  refine goes_oper_k rfl rfl (by k_ne) (fun K hK => ?_)
  go_simp
  refine hK _ _ ⟨?_, ?_⟩
  · rw [listed_nil (by simp [go_sem])]; exact hdq_idle _ _
  clear hK K
  try walk_nrm
  refine Goes.step rfl (fun w hr => ?_)
  replace hF := (hrl _ _) hF hr
  clear hr
  have hc := h2 w hF
  refine goes_oper_k rfl rfl (by k_ne) (fun K hK => ?_)
  go_simp
  refine hK _ _ ⟨?_, ?_⟩
  · refine hdq_read (fun e he => ?_)
    have hm := mem_listed he
    simp [go_sem, *] at hm
    exact ⟨_, hm, block_of_cell hc, hsh 2⟩
  clear hK K hc
  try walk_nrm
  refine Goes.step rfl (fun w hr => ?_)
  replace hF := (hrl _ _) hF hr
  clear hr
  refine goes_oper_k rfl rfl (by k_ne) (fun K hK => ?_)
  go_simp
  refine hK _ _ ⟨?_, ?_⟩
  · rw [listed_nil (by simp [go_sem])]; exact hdq_idle _ _
  clear hK K
  try walk_nrm
  refine Goes.step rfl (fun w hr => ?_)
  replace hF := (hrl _ _) hF hr
  clear hr
  rw [stepG_region_end]
  simp only [goes_go]
  refine ⟨hdq_idle _ _, ?_⟩
  refine Goes.step rfl (fun w hr => ?_)
  replace hF := (hrl _ _) hF hr
  clear hr
  rw [stepG_cond (t := false) (by first | rfl | (simp [Act.eval]; omega))]
  simp only [goes_go, if_true, if_false, Bool.false_eq_true, ↓reduceIte]
  refine ⟨hdq_idle _ _, ?_⟩
  refine Goes.step rfl (fun w hr => ?_)
  replace hF := (hrl _ _) hF hr
  clear hr
  refine goes_exit rfl ?_
  refine ⟨hdq_idle _ _, ?_⟩
  refine Goes.step rfl (fun w hr => ?_)
  replace hF := (hrl _ _) hF hr
  clear hr
  rw [stepG_inBlock]
  simp only [goes_go]
  refine ⟨hdq_idle _ _, ?_⟩
  refine Goes.step rfl (fun w hr => ?_)
  replace hF := (hrl _ _) hF hr
  clear hr
  rw [stepG_region]
  simp only [goes_go, List.size_toArray, List.length_cons, List.length_nil, Nat.reduceAdd, Nat.zero_add, List.range, List.range.loop]
  refine ⟨hdq_idle _ _, ?_⟩
  refine Goes.step rfl (fun w hr => ?_)
  replace hF := (hrl _ _) hF hr
  clear hr
  refine goes_oper_k rfl rfl (by k_ne) (fun K hK => ?_)
  go_simp
  refine hK _ _ ⟨?_, ?_⟩
  · rw [listed_nil (by simp [go_sem])]; exact hdq_idle _ _
  clear hK K
  try walk_nrm
  refine Goes.step rfl (fun w hr => ?_)
  replace hF := (hrl _ _) hF hr
  clear hr
  refine goes_oper_k rfl rfl (by k_ne) (fun K hK => ?_)
  go_simp
  refine hK _ _ ⟨?_, ?_⟩
  · rw [listed_nil (by simp [go_sem])]; exact hdq_idle _ _
  clear hK K
  try walk_nrm
  refine Goes.step rfl (fun w hr => ?_)
  replace hF := (hrl _ _) hF hr
  clear hr
  rw [stepG_region_end]
  simp only [goes_go]
  refine ⟨hdq_idle _ _, ?_⟩
  refine Goes.step rfl (fun w hr => ?_)
  replace hF := (hrl _ _) hF hr
  clear hr
  rw [stepG_inLoop]
  simp only [goes_go]
  refine ⟨hdq_idle _ _, ?_⟩
  refine hN _ _ ⟨_, ?_, ?_, ?_, ?_, ?_, ?_, rfl⟩ hF <;> rfl

set_option maxRecDepth 100000 in
/-- It has not: to step's entry. -/
theorem r_step (hrl : ∀ w w', Q w → R w w' → Q w') {wk : Value} {n k bs wg ev : Nat} (h2 : ∀ w, Q w → w.cell? ⟨bs, 2, none⟩ = some (.bool false)) (hsh : ∀ k, ¬ X.Sh (.cell ⟨bs, k, none⟩)) (cs : List Frame) (g : Goroutine) (w : World) (hF : Q w)
    (hg : Head4 wk n k wg ev bs cs g) :
    Goes Try.prog mn R (HDq X) (fun g w => Q w ∧ ∃ T : Array Value, T.size = 79 ∧ T[6]? = some (pb ev) ∧ T[8]? = some (pb wg) ∧ T[63]? = some wk ∧ T[64]? = some (.int .i64 n) ∧ T[65]? = some (.int .i64 k) ∧ T[15]? = some (pb bs) ∧
      g = inS bs ((base 10).at ⟨T, []⟩ (.inRegion (opsOf (inner (rt rnd4))) [1] :: [.inBlock 7, .inLoop rnd4, .inBlock 6, .inBlock 5, .code (rt (rt (rt rnd3))), .inLoop rnd3, .inBlock 4, .code cd10]) :: cs)) 30 g w := by
  obtain ⟨T, hT, h6, h8, h63, h64, h65, h15, rfl⟩ := hg
  obtain ⟨v0, v1, v2, v3, v4, v5, v6, v7, v8, v9, v10, v11, v12, v13, v14, v15, v16, v17, v18, v19, v20, v21, v22, v23, v24, v25, v26, v27, v28, v29, v30, v31, v32, v33, v34, v35, v36, v37, v38, v39, v40, v41, v42, v43, v44, v45, v46, v47, v48, v49, v50, v51, v52, v53, v54, v55, v56, v57, v58, v59, v60, v61, v62, v63, v64, v65, v66, v67, v68, v69, v70, v71, v72, v73, v74, v75, v76, v77, v78, rfl⟩ := array79 T hT
  simp only [List.getElem?_toArray, List.getElem?_cons_zero, List.getElem?_cons_succ, Option.some.injEq] at h6 h8 h63 h64 h65 h15
  subst h6
  subst h8
  subst h63
  subst h64
  subst h65
  subst h15
  simp only [rnd4, rnd3, cd9, cd8, bodyM, inner, rt, lf, Try.f10, Option.getD_some]
  refine Goes.step rfl (fun w hr => ?_)
  replace hF := (hrl _ _) hF hr
  clear hr
  rw [stepG_seq]
  simp only [goes_go]
  refine ⟨hdq_idle _ _, ?_⟩
  refine Goes.step rfl (fun w hr => ?_)
  replace hF := (hrl _ _) hF hr
  clear hr
  rw [stepG_seq]
  simp only [goes_go]
  refine ⟨hdq_idle _ _, ?_⟩
  refine Goes.step rfl (fun w hr => ?_)
  replace hF := (hrl _ _) hF hr
  clear hr
  rw [stepG_region]
  simp only [goes_go, List.size_toArray, List.length_cons, List.length_nil, Nat.reduceAdd, Nat.zero_add, List.range, List.range.loop]
  refine ⟨hdq_idle _ _, ?_⟩
  refine Goes.step rfl (fun w hr => ?_)
  replace hF := (hrl _ _) hF hr
  clear hr
  refine goes_oper_k rfl rfl (by k_ne) (fun K hK => ?_)
  go_simp
  refine hK _ _ ⟨?_, ?_⟩
  · rw [listed_nil (by simp [go_sem])]; exact hdq_idle _ _
  clear hK K
  try walk_nrm
  refine Goes.step rfl (fun w hr => ?_)
  replace hF := (hrl _ _) hF hr
  clear hr
  refine goes_oper_k rfl rfl (by k_ne) (fun K hK => ?_)
  go_simp
  refine hK _ _ ⟨?_, ?_⟩
  · rw [listed_nil (by simp [go_sem])]; exact hdq_idle _ _
  clear hK K
  try walk_nrm
  refine Goes.step rfl (fun w hr => ?_)
  replace hF := (hrl _ _) hF hr
  clear hr
  refine goes_oper_k rfl rfl (by k_ne) (fun K hK => ?_)
  go_simp
  refine hK _ _ ⟨?_, ?_⟩
  · rw [listed_nil (by simp [go_sem])]; exact hdq_idle _ _
  clear hK K
  try walk_nrm
  refine Goes.step rfl (fun w hr => ?_)
  replace hF := (hrl _ _) hF hr
  clear hr
  have hc := h2 w hF
  refine goes_oper_k rfl rfl (by k_ne) (fun K hK => ?_)
  go_simp
  refine hK _ _ ⟨?_, ?_⟩
  · refine hdq_read (fun e he => ?_)
    have hm := mem_listed he
    simp [go_sem, *] at hm
    exact ⟨_, hm, block_of_cell hc, hsh 2⟩
  clear hK K hc
  try walk_nrm
  refine Goes.step rfl (fun w hr => ?_)
  replace hF := (hrl _ _) hF hr
  clear hr
  refine goes_oper_k rfl rfl (by k_ne) (fun K hK => ?_)
  go_simp
  refine hK _ _ ⟨?_, ?_⟩
  · rw [listed_nil (by simp [go_sem])]; exact hdq_idle _ _
  clear hK K
  try walk_nrm
  refine Goes.step rfl (fun w hr => ?_)
  replace hF := (hrl _ _) hF hr
  clear hr
  rw [stepG_region_end]
  simp only [goes_go]
  refine ⟨hdq_idle _ _, ?_⟩
  refine Goes.step rfl (fun w hr => ?_)
  replace hF := (hrl _ _) hF hr
  clear hr
  rw [stepG_cond (t := true) (by first | rfl | (simp [Act.eval]; omega))]
  simp only [goes_go, if_true, if_false, Bool.false_eq_true, ↓reduceIte]
  refine ⟨hdq_idle _ _, ?_⟩
  refine Goes.step rfl (fun w hr => ?_)
  replace hF := (hrl _ _) hF hr
  clear hr
  rw [stepG_skip]
  simp only [goes_go]
  refine ⟨hdq_idle _ _, ?_⟩
  refine Goes.step rfl (fun w hr => ?_)
  replace hF := (hrl _ _) hF hr
  clear hr
  rw [stepG_block]
  simp only [goes_go]
  refine ⟨hdq_idle _ _, ?_⟩
  refine Goes.step rfl (fun w hr => ?_)
  replace hF := (hrl _ _) hF hr
  clear hr
  rw [stepG_region]
  simp only [goes_go, List.size_toArray, List.length_cons, List.length_nil, Nat.reduceAdd, Nat.zero_add, List.range, List.range.loop]
  refine ⟨hdq_idle _ _, ?_⟩
  refine Goes.step rfl (fun w hr => ?_)
  replace hF := (hrl _ _) hF hr
  clear hr
  refine goes_oper_k rfl rfl (by k_ne) (fun K hK => ?_)
  go_simp
  refine hK _ _ ⟨?_, ?_⟩
  · rw [listed_nil (by simp [go_sem])]; exact hdq_idle _ _
  clear hK K
  try walk_nrm
  refine Goes.step rfl (fun w hr => ?_)
  replace hF := (hrl _ _) hF hr
  clear hr
  refine goes_call rfl rfl (by k_ne) rfl Try.func23 rfl rfl ⟨hdq_idle _ _, ?_⟩
  simp only [Try.f23]
  walk_nrm
  exact Goes.stop (fun w hr => ⟨hrl _ _ hF hr, _, rfl, rfl, rfl, rfl, rfl, rfl, rfl, rfl⟩)

set_option maxRecDepth 100000 in
/-- Behind step, to the inner loop's head. -/
theorem r_next {Stop : Goroutine → World → Prop} {m : Nat} (hrl : ∀ w w', Q w → R w w' → Q w') {wk : Value} {n k bs wg ev : Nat} (cs : List Frame) (w : World) (hF : Q w) (T : Array Value) (hT : T.size = 79) (h6 : T[6]? = some (pb ev)) (h8 : T[8]? = some (pb wg)) (h63 : T[63]? = some wk) (h64 : T[64]? = some (.int .i64 n)) (h65 : T[65]? = some (.int .i64 k)) (h15 : T[15]? = some (pb bs))
    (hN : ∀ g w, Head4 wk n k wg ev bs cs g → Q w → Goes Try.prog mn R (HDq X) Stop m g w) :
    Goes Try.prog mn R (HDq X) Stop (m + 3) (G ((base 10).at (Act.put ⟨T, []⟩ (((opsOf (inner (rt rnd4)))[1]?).bind (·.dst)) (.tuple #[])) (.inRegion (opsOf (inner (rt rnd4))) [] :: [.inBlock 7, .inLoop rnd4, .inBlock 6, .inBlock 5, .code (rt (rt (rt rnd3))), .inLoop rnd3, .inBlock 4, .code cd10])) cs) w := by
  obtain ⟨v0, v1, v2, v3, v4, v5, v6, v7, v8, v9, v10, v11, v12, v13, v14, v15, v16, v17, v18, v19, v20, v21, v22, v23, v24, v25, v26, v27, v28, v29, v30, v31, v32, v33, v34, v35, v36, v37, v38, v39, v40, v41, v42, v43, v44, v45, v46, v47, v48, v49, v50, v51, v52, v53, v54, v55, v56, v57, v58, v59, v60, v61, v62, v63, v64, v65, v66, v67, v68, v69, v70, v71, v72, v73, v74, v75, v76, v77, v78, rfl⟩ := array79 T hT
  simp only [List.getElem?_toArray, List.getElem?_cons_zero, List.getElem?_cons_succ, Option.some.injEq] at h6 h8 h63 h64 h65 h15
  subst h6
  subst h8
  subst h63
  subst h64
  subst h65
  subst h15
  simp only [rnd4, rnd3, cd9, cd8, bodyM, inner, rt, lf, opsOf, Try.f10, Option.getD_some]
  walk_nrm
  refine Goes.step rfl (fun w hr => ?_)
  replace hF := (hrl _ _) hF hr
  clear hr
  rw [stepG_region_end]
  simp only [goes_go]
  refine ⟨hdq_idle _ _, ?_⟩
  refine Goes.step rfl (fun w hr => ?_)
  replace hF := (hrl _ _) hF hr
  clear hr
  rw [stepG_inBlock]
  simp only [goes_go]
  refine ⟨hdq_idle _ _, ?_⟩
  refine Goes.step rfl (fun w hr => ?_)
  replace hF := (hrl _ _) hF hr
  clear hr
  rw [stepG_inLoop]
  simp only [goes_go]
  refine ⟨hdq_idle _ _, ?_⟩
  refine hN _ _ ⟨_, ?_, ?_, ?_, ?_, ?_, ?_, ?_, rfl⟩ hF <;> rfl

/-- At the call of Wait. -/
def AtWait (wg ev : Nat) (cs : List Frame) (g : Goroutine) : Prop :=
  ∃ T : Array Value, T.size = 79 ∧ T[6]? = some (pb ev) ∧ T[8]? = some (pb wg) ∧
    g = G ((base 10).at ⟨T, []⟩ [.inRegion (opsOf (lf cd10)) [0], .code (rt cd10)]) cs

set_option maxRecDepth 100000 in
/-- All have ended: to the call of Wait. -/
theorem r_end (hrl : ∀ w w', Q w → R w w' → Q w') {wk : Value} {n wg ev : Nat} (cs : List Frame) (g : Goroutine) (w : World) (hF : Q w) (hg : Head3 wk n n wg ev cs g) : Goes Try.prog mn R (HDq X) (fun g w => AtWait wg ev cs g ∧ Q w) 20 g w := by
  obtain ⟨T, hT, h6, h8, h63, h64, h65, rfl⟩ := hg
  obtain ⟨v0, v1, v2, v3, v4, v5, v6, v7, v8, v9, v10, v11, v12, v13, v14, v15, v16, v17, v18, v19, v20, v21, v22, v23, v24, v25, v26, v27, v28, v29, v30, v31, v32, v33, v34, v35, v36, v37, v38, v39, v40, v41, v42, v43, v44, v45, v46, v47, v48, v49, v50, v51, v52, v53, v54, v55, v56, v57, v58, v59, v60, v61, v62, v63, v64, v65, v66, v67, v68, v69, v70, v71, v72, v73, v74, v75, v76, v77, v78, rfl⟩ := array79 T hT
  simp only [List.getElem?_toArray, List.getElem?_cons_zero, List.getElem?_cons_succ, Option.some.injEq] at h6 h8 h63 h64 h65
  subst h6
  subst h8
  subst h63
  subst h64
  subst h65
  simp only [rnd3, cd10, cd9, cd8, bodyM, inner, rt, lf, Try.f10, Option.getD_some]
  refine Goes.step rfl (fun w hr => ?_)
  replace hF := (hrl _ _) hF hr
  clear hr
  rw [stepG_seq]
  simp only [goes_go]
  refine ⟨hdq_idle _ _, ?_⟩
  refine Goes.step rfl (fun w hr => ?_)
  replace hF := (hrl _ _) hF hr
  clear hr
  rw [stepG_region]
  simp only [goes_go, List.size_toArray, List.length_cons, List.length_nil, Nat.reduceAdd, Nat.zero_add, List.range, List.range.loop]
  refine ⟨hdq_idle _ _, ?_⟩
  refine Goes.step rfl (fun w hr => ?_)
  replace hF := (hrl _ _) hF hr
  clear hr
  refine goes_oper_k rfl rfl (by k_ne) (fun K hK => ?_)
  go_simp
  refine hK _ _ ⟨?_, ?_⟩
  · rw [listed_nil (by simp [go_sem])]; exact hdq_idle _ _
  clear hK K
  try walk_nrm
  refine Goes.step rfl (fun w hr => ?_)
  replace hF := (hrl _ _) hF hr
  clear hr
  rw [stepG_region_end]
  simp only [goes_go]
  refine ⟨hdq_idle _ _, ?_⟩
  refine Goes.step rfl (fun w hr => ?_)
  replace hF := (hrl _ _) hF hr
  clear hr
  rw [stepG_seq]
  simp only [goes_go]
  refine ⟨hdq_idle _ _, ?_⟩
  refine Goes.step rfl (fun w hr => ?_)
  replace hF := (hrl _ _) hF hr
  clear hr
  rw [stepG_cond (t := false) (by first | rfl | (simp [Act.eval]; omega))]
  simp only [goes_go, if_true, if_false, Bool.false_eq_true, ↓reduceIte]
  refine ⟨hdq_idle _ _, ?_⟩
  refine Goes.step rfl (fun w hr => ?_)
  replace hF := (hrl _ _) hF hr
  clear hr
  refine goes_exit rfl ?_
  refine ⟨hdq_idle _ _, ?_⟩
  refine Goes.step rfl (fun w hr => ?_)
  replace hF := (hrl _ _) hF hr
  clear hr
  rw [stepG_seq]
  simp only [goes_go]
  refine ⟨hdq_idle _ _, ?_⟩
  refine Goes.step rfl (fun w hr => ?_)
  replace hF := (hrl _ _) hF hr
  clear hr
  rw [stepG_region]
  simp only [goes_go, List.size_toArray, List.length_cons, List.length_nil, Nat.reduceAdd, Nat.zero_add, List.range, List.range.loop]
  refine ⟨hdq_idle _ _, ?_⟩
  refine Goes.stop (fun w hr => ⟨⟨_, ?_, ?_, ?_, rfl⟩, hrl _ _ hF hr⟩) <;> rfl
end
end
end Go.Proofs.Ytggfcdhkgldbfaa
