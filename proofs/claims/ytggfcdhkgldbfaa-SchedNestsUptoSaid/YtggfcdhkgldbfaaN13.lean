/-
  PARTS of a claim, merged by segs.py: NwR.
-/
import Derived.Test.YtggfcdhkgldbfaaN12
namespace Go.Proofs.Ytggfcdhkgldbfaa
set_option linter.unusedSimpArgs false
set_option linter.unusedVariables false

/-! ### NwR -/
section
set_option linter.unusedSimpArgs false
open Go Go.Conc Go.RowKit Go.ConcR.Gen Cw

theorem array79 (T : Array Value) (h : T.size = 79) : ∃ v0 v1 v2 v3 v4 v5 v6 v7 v8 v9 v10 v11 v12 v13 v14 v15 v16 v17 v18 v19 v20 v21 v22 v23 v24 v25 v26 v27 v28 v29 v30 v31 v32 v33 v34 v35 v36 v37 v38 v39 v40 v41 v42 v43 v44 v45 v46 v47 v48 v49 v50 v51 v52 v53 v54 v55 v56 v57 v58 v59 v60 v61 v62 v63 v64 v65 v66 v67 v68 v69 v70 v71 v72 v73 v74 v75 v76 v77 v78, T = #[v0, v1, v2, v3, v4, v5, v6, v7, v8, v9, v10, v11, v12, v13, v14, v15, v16, v17, v18, v19, v20, v21, v22, v23, v24, v25, v26, v27, v28, v29, v30, v31, v32, v33, v34, v35, v36, v37, v38, v39, v40, v41, v42, v43, v44, v45, v46, v47, v48, v49, v50, v51, v52, v53, v54, v55, v56, v57, v58, v59, v60, v61, v62, v63, v64, v65, v66, v67, v68, v69, v70, v71, v72, v73, v74, v75, v76, v77, v78] := by
  have hl : T.toList.length = 79 := by simpa using h
  obtain ⟨l⟩ := T
  simp only at hl
  obtain _ | ⟨v0, l⟩ := l
  · simp at hl
  obtain _ | ⟨v1, l⟩ := l
  · simp at hl
  obtain _ | ⟨v2, l⟩ := l
  · simp at hl
  obtain _ | ⟨v3, l⟩ := l
  · simp at hl
  obtain _ | ⟨v4, l⟩ := l
  · simp at hl
  obtain _ | ⟨v5, l⟩ := l
  · simp at hl
  obtain _ | ⟨v6, l⟩ := l
  · simp at hl
  obtain _ | ⟨v7, l⟩ := l
  · simp at hl
  obtain _ | ⟨v8, l⟩ := l
  · simp at hl
  obtain _ | ⟨v9, l⟩ := l
  · simp at hl
  obtain _ | ⟨v10, l⟩ := l
  · simp at hl
  obtain _ | ⟨v11, l⟩ := l
  · simp at hl
  obtain _ | ⟨v12, l⟩ := l
  · simp at hl
  obtain _ | ⟨v13, l⟩ := l
  · simp at hl
  obtain _ | ⟨v14, l⟩ := l
  · simp at hl
  obtain _ | ⟨v15, l⟩ := l
  · simp at hl
  obtain _ | ⟨v16, l⟩ := l
  · simp at hl
  obtain _ | ⟨v17, l⟩ := l
  · simp at hl
  obtain _ | ⟨v18, l⟩ := l
  · simp at hl
  obtain _ | ⟨v19, l⟩ := l
  · simp at hl
  obtain _ | ⟨v20, l⟩ := l
  · simp at hl
  obtain _ | ⟨v21, l⟩ := l
  · simp at hl
  obtain _ | ⟨v22, l⟩ := l
  · simp at hl
  obtain _ | ⟨v23, l⟩ := l
  · simp at hl
  obtain _ | ⟨v24, l⟩ := l
  · simp at hl
  obtain _ | ⟨v25, l⟩ := l
  · simp at hl
  obtain _ | ⟨v26, l⟩ := l
  · simp at hl
  obtain _ | ⟨v27, l⟩ := l
  · simp at hl
  obtain _ | ⟨v28, l⟩ := l
  · simp at hl
  obtain _ | ⟨v29, l⟩ := l
  · simp at hl
  obtain _ | ⟨v30, l⟩ := l
  · simp at hl
  obtain _ | ⟨v31, l⟩ := l
  · simp at hl
  obtain _ | ⟨v32, l⟩ := l
  · simp at hl
  obtain _ | ⟨v33, l⟩ := l
  · simp at hl
  obtain _ | ⟨v34, l⟩ := l
  · simp at hl
  obtain _ | ⟨v35, l⟩ := l
  · simp at hl
  obtain _ | ⟨v36, l⟩ := l
  · simp at hl
  obtain _ | ⟨v37, l⟩ := l
  · simp at hl
  obtain _ | ⟨v38, l⟩ := l
  · simp at hl
  obtain _ | ⟨v39, l⟩ := l
  · simp at hl
  obtain _ | ⟨v40, l⟩ := l
  · simp at hl
  obtain _ | ⟨v41, l⟩ := l
  · simp at hl
  obtain _ | ⟨v42, l⟩ := l
  · simp at hl
  obtain _ | ⟨v43, l⟩ := l
  · simp at hl
  obtain _ | ⟨v44, l⟩ := l
  · simp at hl
  obtain _ | ⟨v45, l⟩ := l
  · simp at hl
  obtain _ | ⟨v46, l⟩ := l
  · simp at hl
  obtain _ | ⟨v47, l⟩ := l
  · simp at hl
  obtain _ | ⟨v48, l⟩ := l
  · simp at hl
  obtain _ | ⟨v49, l⟩ := l
  · simp at hl
  obtain _ | ⟨v50, l⟩ := l
  · simp at hl
  obtain _ | ⟨v51, l⟩ := l
  · simp at hl
  obtain _ | ⟨v52, l⟩ := l
  · simp at hl
  obtain _ | ⟨v53, l⟩ := l
  · simp at hl
  obtain _ | ⟨v54, l⟩ := l
  · simp at hl
  obtain _ | ⟨v55, l⟩ := l
  · simp at hl
  obtain _ | ⟨v56, l⟩ := l
  · simp at hl
  obtain _ | ⟨v57, l⟩ := l
  · simp at hl
  obtain _ | ⟨v58, l⟩ := l
  · simp at hl
  obtain _ | ⟨v59, l⟩ := l
  · simp at hl
  obtain _ | ⟨v60, l⟩ := l
  · simp at hl
  obtain _ | ⟨v61, l⟩ := l
  · simp at hl
  obtain _ | ⟨v62, l⟩ := l
  · simp at hl
  obtain _ | ⟨v63, l⟩ := l
  · simp at hl
  obtain _ | ⟨v64, l⟩ := l
  · simp at hl
  obtain _ | ⟨v65, l⟩ := l
  · simp at hl
  obtain _ | ⟨v66, l⟩ := l
  · simp at hl
  obtain _ | ⟨v67, l⟩ := l
  · simp at hl
  obtain _ | ⟨v68, l⟩ := l
  · simp at hl
  obtain _ | ⟨v69, l⟩ := l
  · simp at hl
  obtain _ | ⟨v70, l⟩ := l
  · simp at hl
  obtain _ | ⟨v71, l⟩ := l
  · simp at hl
  obtain _ | ⟨v72, l⟩ := l
  · simp at hl
  obtain _ | ⟨v73, l⟩ := l
  · simp at hl
  obtain _ | ⟨v74, l⟩ := l
  · simp at hl
  obtain _ | ⟨v75, l⟩ := l
  · simp at hl
  obtain _ | ⟨v76, l⟩ := l
  · simp at hl
  obtain _ | ⟨v77, l⟩ := l
  · simp at hl
  obtain _ | ⟨v78, l⟩ := l
  · simp at hl
  obtain _ | ⟨x, l⟩ := l
  · exact ⟨_, _, _, _, _, _, _, _, _, _, _, _, _, _, _, _, _, _, _, _, _, _, _, _, _, _, _, _, _, _, _, _, _, _, _, _, _, _, _, _, _, _, _, _, _, _, _, _, _, _, _, _, _, _, _, _, _, _, _, _, _, _, _, _, _, _, _, _, _, _, _, _, _, _, _, _, _, _, _, rfl⟩
  · simp only [List.length_cons] at hl
    omega

noncomputable def bodyM : Code := Try.f10.body.getD .skip
/-- What stands behind the spawn loop, the loop of the picks, the loop of the workers. -/
noncomputable def cd8 : Code := rt (rt (rt (rt (rt (rt (rt (rt bodyM)))))))
noncomputable def cd9 : Code := rt cd8
noncomputable def cd10 : Code := rt cd9
noncomputable def rnd2 : Code := inner (inner (rt (lf cd8)))
noncomputable def rnd3 : Code := inner (inner (rt (lf cd9)))
/-- At the head of the loop of the picks: pick number j is next. -/
def Head2 (wk : Value) (ps : Value) (np j : Nat) (wg ev : Nat) (cs : List Frame) (g : Goroutine) : Prop :=
  ∃ T : Array Value, T.size = 79 ∧ T[7]? = some wk ∧ T[6]? = some (pb ev) ∧ T[8]? = some (pb wg) ∧ T[51]? = some ps ∧ T[52]? = some (.int .i64 np) ∧ T[53]? = some (.int .i64 j) ∧
    g = G ((base 10).at ⟨T, []⟩ [.code rnd2, .inLoop rnd2, .inBlock 2, .code cd9]) cs

section
variable {X : Cx} {R : World → World → Prop} {Q : World → Prop} {mn : Bool}

set_option maxRecDepth 100000 in
/-- A pick: to step's entry. -/
theorem p_pick (hrl : ∀ w w', Q w → R w w' → Q w') {p o np cap wb ncap n j i bs : Nat} (hj : j < np) (hi : i < n) {wg ev : Nat} (hc : ∀ w, Q w → w.cell? ⟨p, o + j, none⟩ = some (.int .i64 i)) (hw : ∀ w, Q w → w.cell? ⟨wb, i, none⟩ = some (pb bs)) (hsp : ∀ k, ¬ X.Sh (.cell ⟨p, k, none⟩)) (hsw : ∀ k, ¬ X.Sh (.cell ⟨wb, k, none⟩)) (cs : List Frame) (g : Goroutine) (w : World) (hF : Q w)
    (hg : Head2 (.slice (some ⟨wb, 0, none⟩) n ncap) (.slice (some ⟨p, o, none⟩) np cap) np j wg ev cs g) :
    Goes Try.prog mn R (HDq X) (fun g w => Q w ∧ ∃ T : Array Value, T.size = 79 ∧ T[7]? = some (.slice (some ⟨wb, 0, none⟩) n ncap) ∧ T[6]? = some (pb ev) ∧ T[8]? = some (pb wg) ∧ T[51]? = some (.slice (some ⟨p, o, none⟩) np cap) ∧ T[52]? = some (.int .i64 np) ∧ T[53]? = some (.int .i64 j) ∧
      g = inS bs ((base 10).at ⟨T, []⟩ (.inRegion (opsOf (rt (inner (lf (rt (rt rnd2)))))) [4] :: [.inBlock 3, .code (rt (rt (rt rnd2))), .inLoop rnd2, .inBlock 2, .code cd9]) :: cs)) 30 g w := by
  obtain ⟨T, hT, h7, h6, h8, h51, h52, h53, rfl⟩ := hg
  obtain ⟨v0, v1, v2, v3, v4, v5, v6, v7, v8, v9, v10, v11, v12, v13, v14, v15, v16, v17, v18, v19, v20, v21, v22, v23, v24, v25, v26, v27, v28, v29, v30, v31, v32, v33, v34, v35, v36, v37, v38, v39, v40, v41, v42, v43, v44, v45, v46, v47, v48, v49, v50, v51, v52, v53, v54, v55, v56, v57, v58, v59, v60, v61, v62, v63, v64, v65, v66, v67, v68, v69, v70, v71, v72, v73, v74, v75, v76, v77, v78, rfl⟩ := array79 T hT
  simp only [List.getElem?_toArray, List.getElem?_cons_zero, List.getElem?_cons_succ, Option.some.injEq] at h7 h6 h8 h51 h52 h53
  subst h7
  subst h6
  subst h8
  subst h51
  subst h52
  subst h53
  have hji : (j : Int) < (np : Int) := by omega
  have hii : (i : Int) < (n : Int) := by omega
  simp only [rnd2, cd8, bodyM, inner, rt, lf, Try.f10, Option.getD_some]
  refine Goes.step rfl (fun w hr => ?_)
  replace hF := (hrl _ _) hF hr
  clear hr
  rw [stepG_seq]
  simp only [goes_go]
  refine ⟨hdq_idle _ _, ?_⟩
  refine Goes.step rfl (fun w hr => ?_)
  replace hF := (hrl _ _) hF hr
  clear hr
  rw [stepG_region]
  simp only [goes_go, List.size_toArray, List.length_cons, List.length_nil, Nat.reduceAdd, Nat.zero_add, List.range, List.range.loop]
  refine ⟨hdq_idle _ _, ?_⟩
  refine Goes.step rfl (fun w hr => ?_)
  replace hF := (hrl _ _) hF hr
  clear hr
  refine goes_oper_k rfl rfl (by k_ne) (fun K hK => ?_)
  go_simp
  refine hK _ _ ⟨?_, ?_⟩
  · rw [listed_nil (by simp [go_sem])]; exact hdq_idle _ _
  clear hK K
  try walk_nrm
  refine Goes.step rfl (fun w hr => ?_)
  replace hF := (hrl _ _) hF hr
  clear hr
  rw [stepG_region_end]
  simp only [goes_go]
  refine ⟨hdq_idle _ _, ?_⟩
  refine Goes.step rfl (fun w hr => ?_)
  replace hF := (hrl _ _) hF hr
  clear hr
  rw [stepG_seq]
  simp only [goes_go]
  refine ⟨hdq_idle _ _, ?_⟩
  refine Goes.step rfl (fun w hr => ?_)
  replace hF := (hrl _ _) hF hr
  clear hr
  rw [stepG_cond (t := true) (by first | rfl | (simp [Act.eval]; omega))]
  simp only [goes_go, if_true, if_false, Bool.false_eq_true, ↓reduceIte]
  refine ⟨hdq_idle _ _, ?_⟩
  refine Goes.step rfl (fun w hr => ?_)
  replace hF := (hrl _ _) hF hr
  clear hr
  rw [stepG_skip]
  simp only [goes_go]
  refine ⟨hdq_idle _ _, ?_⟩
  refine Goes.step rfl (fun w hr => ?_)
  replace hF := (hrl _ _) hF hr
  clear hr
  rw [stepG_seq]
  simp only [goes_go]
  refine ⟨hdq_idle _ _, ?_⟩
  refine Goes.step rfl (fun w hr => ?_)
  replace hF := (hrl _ _) hF hr
  clear hr
  rw [stepG_block]
  simp only [goes_go]
  refine ⟨hdq_idle _ _, ?_⟩
  refine Goes.step rfl (fun w hr => ?_)
  replace hF := (hrl _ _) hF hr
  clear hr
  rw [stepG_seq]
  simp only [goes_go]
  refine ⟨hdq_idle _ _, ?_⟩
  refine Goes.step rfl (fun w hr => ?_)
  replace hF := (hrl _ _) hF hr
  clear hr
  rw [stepG_region]
  simp only [goes_go, List.size_toArray, List.length_cons, List.length_nil, Nat.reduceAdd, Nat.zero_add, List.range, List.range.loop]
  refine ⟨hdq_idle _ _, ?_⟩
  refine Goes.step rfl (fun w hr => ?_)
  replace hF := (hrl _ _) hF hr
  clear hr
  refine goes_oper_k rfl rfl (by k_ne) (fun K hK => ?_)
  go_simp
  refine hK _ _ ⟨?_, ?_⟩
  · rw [listed_nil (by simp [go_sem, *])]; exact hdq_idle _ _
  clear hK K
  try walk_nrm
  refine Goes.step rfl (fun w hr => ?_)
  replace hF := (hrl _ _) hF hr
  clear hr
  have hc := hc w hF
  refine goes_oper_k rfl rfl (by k_ne) (fun K hK => ?_)
  go_simp
  refine hK _ _ ⟨?_, ?_⟩
  · refine hdq_read (fun e he => ?_)
    have hm := mem_listed he
    simp [go_sem, *] at hm
    exact ⟨_, hm, block_of_cell hc, hsp _⟩
  clear hK K hc
  try walk_nrm
  refine Goes.step rfl (fun w hr => ?_)
  replace hF := (hrl _ _) hF hr
  clear hr
  refine goes_oper_k rfl rfl (by k_ne) (fun K hK => ?_)
  go_simp
  refine hK _ _ ⟨?_, ?_⟩
  · rw [listed_nil (by simp [go_sem])]; exact hdq_idle _ _
  clear hK K
  try walk_nrm
  refine Goes.step rfl (fun w hr => ?_)
  replace hF := (hrl _ _) hF hr
  clear hr
  rw [stepG_region_end]
  simp only [goes_go]
  refine ⟨hdq_idle _ _, ?_⟩
  refine Goes.step rfl (fun w hr => ?_)
  replace hF := (hrl _ _) hF hr
  clear hr
  rw [stepG_region]
  simp only [goes_go, List.size_toArray, List.length_cons, List.length_nil, Nat.reduceAdd, Nat.zero_add, List.range, List.range.loop]
  refine ⟨hdq_idle _ _, ?_⟩
  refine Goes.step rfl (fun w hr => ?_)
  replace hF := (hrl _ _) hF hr
  clear hr
  refine goes_oper_k rfl rfl (by k_ne) (fun K hK => ?_)
  go_simp
  refine hK _ _ ⟨?_, ?_⟩
  · rw [listed_nil (by simp [go_sem])]; exact hdq_idle _ _
  clear hK K
  try walk_nrm
  refine Goes.step rfl (fun w hr => ?_)
  replace hF := (hrl _ _) hF hr
  clear hr
  refine goes_oper_k rfl rfl (by k_ne) (fun K hK => ?_)
  go_simp
  refine hK _ _ ⟨?_, ?_⟩
  · rw [listed_nil (by simp [go_sem])]; exact hdq_idle _ _
  clear hK K
  try walk_nrm
  refine Goes.step rfl (fun w hr => ?_)
  replace hF := (hrl _ _) hF hr
  clear hr
  refine goes_oper_k rfl rfl (by k_ne) (fun K hK => ?_)
  go_simp
  refine hK _ _ ⟨?_, ?_⟩
  · rw [listed_nil (by simp [go_sem, *])]; exact hdq_idle _ _
  clear hK K
  try walk_nrm
  refine Goes.step rfl (fun w hr => ?_)
  replace hF := (hrl _ _) hF hr
  clear hr
  have hc := hw w hF
  refine goes_oper_k rfl rfl (by k_ne) (fun K hK => ?_)
  go_simp
  refine hK _ _ ⟨?_, ?_⟩
  · refine hdq_read (fun e he => ?_)
    have hm := mem_listed he
    simp [go_sem, *] at hm
    exact ⟨_, hm, block_of_cell hc, hsw _⟩
  clear hK K hc
  try walk_nrm
  refine Goes.step rfl (fun w hr => ?_)
  replace hF := (hrl _ _) hF hr
  clear hr
  refine goes_call rfl rfl (by k_ne) rfl Try.func23 rfl rfl ⟨hdq_idle _ _, ?_⟩
  simp only [Try.f23]
  walk_nrm
  exact Goes.stop (fun w hr => ⟨hrl _ _ hF hr, _, rfl, rfl, rfl, rfl, rfl, rfl, rfl, rfl⟩)

set_option maxRecDepth 100000 in
/-- Behind step, to the loop's head. -/
theorem p_next {Stop : Goroutine → World → Prop} {m : Nat} (hrl : ∀ w w', Q w → R w w' → Q w') {wk ps : Value} {np j wg ev : Nat} (hj : j < np) (hn : np < 9223372036854775807) (cs : List Frame) (w : World) (hF : Q w) (T : Array Value) (hT : T.size = 79) (h7 : T[7]? = some wk) (h6 : T[6]? = some (pb ev)) (h8 : T[8]? = some (pb wg)) (h51 : T[51]? = some ps) (h52 : T[52]? = some (.int .i64 np)) (h53 : T[53]? = some (.int .i64 j))
    (hN : ∀ g w, Head2 wk ps np (j + 1) wg ev cs g → Q w → Goes Try.prog mn R (HDq X) Stop m g w) :
    Goes Try.prog mn R (HDq X) Stop (m + 7) (G ((base 10).at (Act.put ⟨T, []⟩ (((opsOf (rt (inner (lf (rt (rt rnd2))))))[4]?).bind (·.dst)) (.tuple #[])) (.inRegion (opsOf (rt (inner (lf (rt (rt rnd2)))))) [] :: [.inBlock 3, .code (rt (rt (rt rnd2))), .inLoop rnd2, .inBlock 2, .code cd9])) cs) w := by
  have hwr : IntKind.i64.wrap ((j : Int) + 1) = ((j + 1 : Nat) : Int) := by rw [IntKind.wrap_i64]; omega
  obtain ⟨v0, v1, v2, v3, v4, v5, v6, v7, v8, v9, v10, v11, v12, v13, v14, v15, v16, v17, v18, v19, v20, v21, v22, v23, v24, v25, v26, v27, v28, v29, v30, v31, v32, v33, v34, v35, v36, v37, v38, v39, v40, v41, v42, v43, v44, v45, v46, v47, v48, v49, v50, v51, v52, v53, v54, v55, v56, v57, v58, v59, v60, v61, v62, v63, v64, v65, v66, v67, v68, v69, v70, v71, v72, v73, v74, v75, v76, v77, v78, rfl⟩ := array79 T hT
  simp only [List.getElem?_toArray, List.getElem?_cons_zero, List.getElem?_cons_succ, Option.some.injEq] at h7 h6 h8 h51 h52 h53
  subst h7
  subst h6
  subst h8
  subst h51
  subst h52
  subst h53
  simp only [rnd2, cd8, bodyM, inner, rt, lf, opsOf, Try.f10, Option.getD_some]
  walk_nrm
  refine Goes.step rfl (fun w hr => ?_)
  replace hF := (hrl _ _) hF hr
  clear hr
  rw [stepG_region_end]
  simp only [goes_go]
  refine ⟨hdq_idle _ _, ?_⟩
  refine Goes.step rfl (fun w hr => ?_)
  replace hF := (hrl _ _) hF hr
  clear hr
  rw [stepG_inBlock]
  simp only [goes_go]
  refine ⟨hdq_idle _ _, ?_⟩
  refine Goes.step rfl (fun w hr => ?_)
  replace hF := (hrl _ _) hF hr
  clear hr
  rw [stepG_region]
  simp only [goes_go, List.size_toArray, List.length_cons, List.length_nil, Nat.reduceAdd, Nat.zero_add, List.range, List.range.loop]
  refine ⟨hdq_idle _ _, ?_⟩
  refine Goes.step rfl (fun w hr => ?_)
  replace hF := (hrl _ _) hF hr
  clear hr
  refine goes_oper_k rfl rfl (by k_ne) (fun K hK => ?_)
  go_simp
  refine hK _ _ ⟨?_, ?_⟩
  · rw [listed_nil (by simp [go_sem])]; exact hdq_idle _ _
  clear hK K
  try walk_nrm
  refine Goes.step rfl (fun w hr => ?_)
  replace hF := (hrl _ _) hF hr
  clear hr
  refine goes_oper_k rfl rfl (by k_ne) (fun K hK => ?_)
  go_simp
  refine hK _ _ ⟨?_, ?_⟩
  · rw [listed_nil (by simp [go_sem])]; exact hdq_idle _ _
  clear hK K
  try walk_nrm
  refine Goes.step rfl (fun w hr => ?_)
  replace hF := (hrl _ _) hF hr
  clear hr
  rw [stepG_region_end]
  simp only [goes_go]
  refine ⟨hdq_idle _ _, ?_⟩
  refine Goes.step rfl (fun w hr => ?_)
  replace hF := (hrl _ _) hF hr
  clear hr
  rw [stepG_inLoop]
  simp only [goes_go]
  refine ⟨hdq_idle _ _, ?_⟩
  refine hN _ _ ⟨_, ?_, ?_, ?_, ?_, ?_, ?_, ?_, rfl⟩ hF <;> rfl

/-- At the head of the loop of the workers: worker number k is next. -/
def Head3 (wk : Value) (n k wg ev : Nat) (cs : List Frame) (g : Goroutine) : Prop :=
  ∃ T : Array Value, T.size = 79 ∧ T[6]? = some (pb ev) ∧ T[8]? = some (pb wg) ∧ T[63]? = some wk ∧ T[64]? = some (.int .i64 n) ∧ T[65]? = some (.int .i64 k) ∧
    g = G ((base 10).at ⟨T, []⟩ [.code rnd3, .inLoop rnd3, .inBlock 4, .code cd10]) cs
noncomputable def rnd4 : Code := inner (inner (rt (inner (lf (rt (rt rnd3))))))
/-- At the head of its inner loop: worker k's record is pb bs. -/
def Head4 (wk : Value) (n k wg ev bs : Nat) (cs : List Frame) (g : Goroutine) : Prop :=
  ∃ T : Array Value, T.size = 79 ∧ T[6]? = some (pb ev) ∧ T[8]? = some (pb wg) ∧ T[63]? = some wk ∧ T[64]? = some (.int .i64 n) ∧ T[65]? = some (.int .i64 k) ∧ T[15]? = some (pb bs) ∧
    g = G ((base 10).at ⟨T, []⟩ [.code rnd4, .inLoop rnd4, .inBlock 6, .inBlock 5, .code (rt (rt (rt rnd3))), .inLoop rnd3, .inBlock 4, .code cd10]) cs

set_option maxRecDepth 100000 in
/-- The picks are over. -/
theorem p_end {Stop : Goroutine → World → Prop} {m : Nat} (hrl : ∀ w w', Q w → R w w' → Q w') {a : Option Addr} {n c : Nat} {ps : Value} {np wg ev : Nat} (cs : List Frame) (g : Goroutine) (w : World) (hF : Q w) (hg : Head2 (.slice a n c) ps np np wg ev cs g) (hN : ∀ g w, Head3 (.slice a n c) n 0 wg ev cs g → Q w → Goes Try.prog mn R (HDq X) Stop m g w) :
    Goes Try.prog mn R (HDq X) Stop (m + 16) g w := by
  obtain ⟨T, hT, h7, h6, h8, h51, h52, h53, rfl⟩ := hg
  obtain ⟨v0, v1, v2, v3, v4, v5, v6, v7, v8, v9, v10, v11, v12, v13, v14, v15, v16, v17, v18, v19, v20, v21, v22, v23, v24, v25, v26, v27, v28, v29, v30, v31, v32, v33, v34, v35, v36, v37, v38, v39, v40, v41, v42, v43, v44, v45, v46, v47, v48, v49, v50, v51, v52, v53, v54, v55, v56, v57, v58, v59, v60, v61, v62, v63, v64, v65, v66, v67, v68, v69, v70, v71, v72, v73, v74, v75, v76, v77, v78, rfl⟩ := array79 T hT
  simp only [List.getElem?_toArray, List.getElem?_cons_zero, List.getElem?_cons_succ, Option.some.injEq] at h7 h6 h8 h51 h52 h53
  subst h7
  subst h6
  subst h8
  subst h51
  subst h52
  subst h53
  simp only [rnd2, cd9, cd8, bodyM, inner, rt, lf, Try.f10, Option.getD_some]
  refine Goes.step rfl (fun w hr => ?_)
  replace hF := (hrl _ _) hF hr
  clear hr
  rw [stepG_seq]
  simp only [goes_go]
  refine ⟨hdq_idle _ _, ?_⟩
  refine Goes.step rfl (fun w hr => ?_)
  replace hF := (hrl _ _) hF hr
  clear hr
  rw [stepG_region]
  simp only [goes_go, List.size_toArray, List.length_cons, List.length_nil, Nat.reduceAdd, Nat.zero_add, List.range, List.range.loop]
  refine ⟨hdq_idle _ _, ?_⟩
  refine Goes.step rfl (fun w hr => ?_)
  replace hF := (hrl _ _) hF hr
  clear hr
  refine goes_oper_k rfl rfl (by k_ne) (fun K hK => ?_)
  go_simp
  refine hK _ _ ⟨?_, ?_⟩
  · rw [listed_nil (by simp [go_sem])]; exact hdq_idle _ _
  clear hK K
  try walk_nrm
  refine Goes.step rfl (fun w hr => ?_)
  replace hF := (hrl _ _) hF hr
  clear hr
  rw [stepG_region_end]
  simp only [goes_go]
  refine ⟨hdq_idle _ _, ?_⟩
  refine Goes.step rfl (fun w hr => ?_)
  replace hF := (hrl _ _) hF hr
  clear hr
  rw [stepG_seq]
  simp only [goes_go]
  refine ⟨hdq_idle _ _, ?_⟩
  refine Goes.step rfl (fun w hr => ?_)
  replace hF := (hrl _ _) hF hr
  clear hr
  rw [stepG_cond (t := false) (by first | rfl | (simp [Act.eval]; omega))]
  simp only [goes_go, if_true, if_false, Bool.false_eq_true, ↓reduceIte]
  refine ⟨hdq_idle _ _, ?_⟩
  refine Goes.step rfl (fun w hr => ?_)
  replace hF := (hrl _ _) hF hr
  clear hr
  refine goes_exit rfl ?_
  refine ⟨hdq_idle _ _, ?_⟩
  refine Goes.step rfl (fun w hr => ?_)
  replace hF := (hrl _ _) hF hr
  clear hr
  rw [stepG_seq]
  simp only [goes_go]
  refine ⟨hdq_idle _ _, ?_⟩
  refine Goes.step rfl (fun w hr => ?_)
  replace hF := (hrl _ _) hF hr
  clear hr
  rw [stepG_seq]
  simp only [goes_go]
  refine ⟨hdq_idle _ _, ?_⟩
  refine Goes.step rfl (fun w hr => ?_)
  replace hF := (hrl _ _) hF hr
  clear hr
  rw [stepG_region]
  simp only [goes_go, List.size_toArray, List.length_cons, List.length_nil, Nat.reduceAdd, Nat.zero_add, List.range, List.range.loop]
  refine ⟨hdq_idle _ _, ?_⟩
  refine Goes.step rfl (fun w hr => ?_)
  replace hF := (hrl _ _) hF hr
  clear hr
  refine goes_oper_k rfl rfl (by k_ne) (fun K hK => ?_)
  go_simp
  refine hK _ _ ⟨?_, ?_⟩
  · rw [listed_nil (by simp [go_sem])]; exact hdq_idle _ _
  clear hK K
  try walk_nrm
  refine Goes.step rfl (fun w hr => ?_)
  replace hF := (hrl _ _) hF hr
  clear hr
  refine goes_oper_k rfl rfl (by k_ne) (fun K hK => ?_)
  go_simp
  refine hK _ _ ⟨?_, ?_⟩
  · rw [listed_nil (by simp [go_sem])]; exact hdq_idle _ _
  clear hK K
  try walk_nrm
  refine Goes.step rfl (fun w hr => ?_)
  replace hF := (hrl _ _) hF hr
  clear hr
  refine goes_oper_k rfl rfl (by k_ne) (fun K hK => ?_)
  go_simp
  refine hK _ _ ⟨?_, ?_⟩
  · rw [listed_nil (by simp [go_sem])]; exact hdq_idle _ _
  clear hK K
  try walk_nrm
  refine Goes.step rfl (fun w hr => ?_)
  replace hF := (hrl _ _) hF hr
  clear hr
  rw [stepG_region_end]
  simp only [goes_go]
  refine ⟨hdq_idle _ _, ?_⟩
  refine Goes.step rfl (fun w hr => ?_)
  replace hF := (hrl _ _) hF hr
  clear hr
  rw [stepG_block]
  simp only [goes_go]
  refine ⟨hdq_idle _ _, ?_⟩
  refine Goes.step rfl (fun w hr => ?_)
  replace hF := (hrl _ _) hF hr
  clear hr
  rw [stepG_loop]
  simp only [goes_go]
  refine ⟨hdq_idle _ _, ?_⟩
  refine hN _ _ ⟨_, ?_, ?_, ?_, ?_, ?_, ?_, rfl⟩ hF <;> rfl
end
end
end Go.Proofs.Ytggfcdhkgldbfaa
