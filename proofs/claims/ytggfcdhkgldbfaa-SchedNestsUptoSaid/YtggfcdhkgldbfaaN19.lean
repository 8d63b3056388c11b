/-
  PARTS of a claim, merged by segs.py: NwI3, NwI4, NwY1.
-/
import Derived.Test.YtggfcdhkgldbfaaN18
import Derived.Test.YtggfcdhkgldbfaaN08
import Derived.Test.YtggfcdhkgldbfaaN16
namespace Go.Proofs.Ytggfcdhkgldbfaa
set_option linter.unusedSimpArgs false
set_option linter.unusedVariables false

/-! ### NwI3 -/
section
set_option linter.unusedSimpArgs false
open Go Go.Conc Go.RowKit Go.ConcR.Gen Cw

noncomputable def ops15 : Array Oper := opsOf (lf (rt (rt (rt blk1))))
/-- The slots of a round that are used behind Add. -/
structure Sl (ps wk tk : Value) (n i wg ev bi bt bw : Nat) (T : Array Value) : Prop where
  sz : T.size = 79
  s0 : T[0]? = some ps
  s7 : T[7]? = some wk
  s6 : T[6]? = some (pb ev)
  s8 : T[8]? = some (pb wg)
  s33 : T[33]? = some tk
  s34 : T[34]? = some (.int .i64 n)
  s35 : T[35]? = some (.int .i64 i)
  s9 : T[9]? = some (pb bi)
  s10 : T[10]? = some (pb bt)
  s11 : T[11]? = some (pb bw)
section
variable {X : Cx} {R : World → World → Prop} {Q Q' : World → Prop} {mn : Bool}
set_option maxRecDepth 100000 in
/-- To the call of Add. -/
theorem h_store (hrl : ∀ w w', Q w → R w w' → Q w') (hrl' : ∀ w w', Q' w → R w w' → Q' w') {ps tk : Value} {ncap n i wg ev bi bt bw bs wb : Nat} (hi : i < n)
    (hbi : ∀ w, Q w → w.cell? ⟨bi, 0, none⟩ = some (.int .i64 i)) (hbw : ∀ w, Q w → w.cell? ⟨bw, 0, none⟩ = some (pb bs)) (hsbi : ¬ X.Sh (.cell ⟨bi, 0, none⟩)) (hsbw : ¬ X.Sh (.cell ⟨bw, 0, none⟩))
    (h2 : ∀ w, Q w → ∃ u, w.cell? ⟨wb, i, none⟩ = some u) (hfz : ∀ w, Q w → w.frozen? ⟨wb, i, none⟩ = false)
    (hwr : ∀ w, Q w → ∀ es : Array Event, (∀ e ∈ es, e = ⟨.cell ⟨wb, i, none⟩, true, false⟩) → HDq X w (w.setCell ⟨wb, i, none⟩ (pb bs)) es ∧ Q' (w.setCell ⟨wb, i, none⟩ (pb bs)))
    (cs : List Frame) (g : Goroutine) (w : World) (hF : Q w) (hg : AtLaid ps (.slice (some ⟨wb, 0, none⟩) n ncap) tk n i wg ev bi bt bw cs g) :
    Goes Try.prog mn R (HDq X) (fun g w => Q' w ∧ ∃ T, Sl ps (.slice (some ⟨wb, 0, none⟩) n ncap) tk n i wg ev bi bt bw T ∧ g = G (fRun T (.inRegion ops15 [0] :: .code (rt (rt (rt (rt blk1)))) :: todo1)) cs) 20 g w := by
  obtain ⟨T, hT, h0, h7, h6, h8, h33, h34, h35, h9, h10, h11, rfl⟩ := hg
  obtain ⟨v0, v1, v2, v3, v4, v5, v6, v7, v8, v9, v10, v11, v12, v13, v14, v15, v16, v17, v18, v19, v20, v21, v22, v23, v24, v25, v26, v27, v28, v29, v30, v31, v32, v33, v34, v35, v36, v37, v38, v39, v40, v41, v42, v43, v44, v45, v46, v47, v48, v49, v50, v51, v52, v53, v54, v55, v56, v57, v58, v59, v60, v61, v62, v63, v64, v65, v66, v67, v68, v69, v70, v71, v72, v73, v74, v75, v76, v77, v78, rfl⟩ := array79 T hT
  simp only [List.getElem?_toArray, List.getElem?_cons_zero, List.getElem?_cons_succ, Option.some.injEq] at h0 h7 h6 h8 h33 h34 h35 h9 h10 h11
  subst h0
  subst h7
  subst h6
  subst h8
  subst h33
  subst h34
  subst h35
  subst h9
  subst h10
  subst h11
  have hii : (i : Int) < (n : Int) := by omega
  simp only [fRun, ops15, todo1, blk1, rnd1, cd7, bodyM, inner, rt, lf, opsOf, Try.f10, Option.getD_some]
  refine Goes.step rfl (fun w hr => ?_)
  replace hF := (hrl _ _) hF hr
  clear hr
  rw [stepG_seq]
  simp only [goes_go]
  refine ⟨hdq_idle _ _, ?_⟩
  refine Goes.step rfl (fun w hr => ?_)
  replace hF := (hrl _ _) hF hr
  clear hr
  rw [stepG_region]
  simp only [goes_go, List.size_toArray, List.length_cons, List.length_nil, Nat.reduceAdd, Nat.zero_add, List.range, List.range.loop]
  refine ⟨hdq_idle _ _, ?_⟩
  refine Goes.step rfl (fun w hr => ?_)
  replace hF := (hrl _ _) hF hr
  clear hr
  refine goes_oper_k rfl rfl (by k_ne) (fun K hK => ?_)
  go_simp
  refine hK _ _ ⟨?_, ?_⟩
  · rw [listed_nil (by simp [go_sem])]; exact hdq_idle _ _
  clear hK K
  try walk_nrm
  refine Goes.step rfl (fun w hr => ?_)
  replace hF := (hrl _ _) hF hr
  clear hr
  have hc := hbi w hF
  refine goes_oper_k rfl rfl (by k_ne) (fun K hK => ?_)
  go_simp
  refine hK _ _ ⟨?_, ?_⟩
  · refine hdq_read (fun e he => ?_)
    have hm := mem_listed he
    simp [go_sem, *] at hm
    exact ⟨_, hm, block_of_cell hc, hsbi⟩
  clear hK K hc
  try walk_nrm
  refine Goes.step rfl (fun w hr => ?_)
  replace hF := (hrl _ _) hF hr
  clear hr
  have hc := hbw w hF
  refine goes_oper_k rfl rfl (by k_ne) (fun K hK => ?_)
  go_simp
  refine hK _ _ ⟨?_, ?_⟩
  · refine hdq_read (fun e he => ?_)
    have hm := mem_listed he
    simp [go_sem, *] at hm
    exact ⟨_, hm, block_of_cell hc, hsbw⟩
  clear hK K hc
  try walk_nrm
  refine Goes.step rfl (fun w hr => ?_)
  replace hF := (hrl _ _) hF hr
  clear hr
  refine goes_oper_k rfl rfl (by k_ne) (fun K hK => ?_)
  go_simp
  refine hK _ _ ⟨?_, ?_⟩
  · rw [listed_nil (by simp [go_sem, *])]; exact hdq_idle _ _
  clear hK K
  try walk_nrm
  refine Goes.step rfl (fun w hr => ?_)
  replace hF := (hrl _ _) hF hr
  clear hr
  obtain ⟨u, hc⟩ := h2 w hF
  have hz := hfz w hF
  refine goes_oper_k rfl rfl (by k_ne) (fun K hK => ?_)
  go_simp
  try (unfold stored; go_simp)
  have hes := hwr w hF
  replace hF := (hwr w hF #[] (by simp)).2
  refine hK _ _ ⟨?_, ?_⟩
  · refine (hes _ (fun e he => ?_)).1
    have hm := mem_listed he
    simp [go_sem, events_store_ptr, storedEv, *] at hm
    exact hm
  clear hK K hc hz hes
  try walk_nrm
  generalize w.setCell ⟨wb, i, none⟩ (pb bs) = w at *
  refine Goes.step rfl (fun w hr => ?_)
  replace hF := (hrl' _ _) hF hr
  clear hr
  rw [stepG_region_end]
  simp only [goes_go]
  refine ⟨hdq_idle _ _, ?_⟩
  refine Goes.step rfl (fun w hr => ?_)
  replace hF := (hrl' _ _) hF hr
  clear hr
  rw [stepG_seq]
  simp only [goes_go]
  refine ⟨hdq_idle _ _, ?_⟩
  refine Goes.step rfl (fun w hr => ?_)
  replace hF := (hrl' _ _) hF hr
  clear hr
  rw [stepG_region]
  simp only [goes_go, List.size_toArray, List.length_cons, List.length_nil, Nat.reduceAdd, Nat.zero_add, List.range, List.range.loop]
  refine ⟨hdq_idle _ _, ?_⟩
  refine Goes.stop (fun w hr => ⟨hrl' _ _ hF hr, ?_⟩)
  refine ⟨_, ?_, rfl⟩
  constructor <;> rfl

/-- Behind the operation. -/
def PutI (T : Array Value) (k : Nat) (v : Value) : Array Value := T.setIfInBounds k v
/-- What Add does, from the call on. -/
abbrev AddSp (V : Nat → Prop) (wg v : Nat) (T : Array Value) (cs : List Frame) (mn : Bool) (K : World → Prop) : Goroutine → World → Prop :=
  Sp V Try.prog mn (· = #[Go.ConcR.mk .disable]) id (Sp V Try.prog mn (AddEs wg) (fun w => w.setCell (Go.ConcR.stA wg) (.int .u64 (((v : Int) + 1) * Go.ConcR.KK))) fun g w =>
      (v = 0 → Sp V Try.prog mn (· = #[Go.ConcR.mk (.read ⟨wg, 1, none⟩)]) id (Sp V Try.prog mn (· = #[Go.ConcR.mk .enable]) id (BackK (base 10) ⟨T, []⟩ ops15 0 [] (.code (rt (rt (rt (rt blk1)))) :: todo1) cs link.tWg wg (((v : Int) + 1) * Go.ConcR.KK) K)) g w) ∧
      (v ≠ 0 → Sp V Try.prog mn (· = #[Go.ConcR.mk .enable]) id (BackK (base 10) ⟨T, []⟩ ops15 0 [] (.code (rt (rt (rt (rt blk1)))) :: todo1) cs link.tWg wg (((v : Int) + 1) * Go.ConcR.KK) K) g w))
set_option maxRecDepth 100000 in
set_option maxHeartbeats 2000000 in
theorem h_add {V : Nat → Prop} {wg v : Nat} (hnW : ¬ V wg) {K : World → Prop} (hKr : ∀ w w', Rz V w w' → K w → K w') (hKs : ∀ w x, K w → K (w.setCell (Go.ConcR.stA wg) x)) (hv : v < 2147483646) (T : Array Value) (h8 : T[8]? = some (pb wg)) (cs : List Frame) (w : World) (hF : Go.ConcR.WgAt link.tWg wg w ((v : Int) * Go.ConcR.KK) 0 ∧ K w) :
    Goes Try.prog mn (Rz V) Cw.D0 (AddSp V wg v T cs mn K) 14 (G (fRun T (.inRegion ops15 [0] :: .code (rt (rt (rt (rt blk1)))) :: todo1)) cs) w := by
  replace h8 := getD_of h8
  refine Goes.step rfl (fun w hr => ?_)
  replace hF : Go.ConcR.WgAt link.tWg wg w ((v : Int) * Go.ConcR.KK) 0 ∧ K w := ⟨(add_rl (K := fun _ => True) (L := link) (st := (v : Int) * Go.ConcR.KK) (sm := 0) hnW (fun _ _ _ x => x) ⟨hF.1, trivial⟩ hr).1, hKr _ _ hr hF.2⟩
  clear hr
  obtain ⟨ps, ho⟩ : ∃ ps, ops15[0]? = some { dst := some 48, op := .call { callee := .value (.func 18), args := #[.tmp 8, .const (.int .i64 1)], argTypes := #[66, 3] }, type := 0, pos := ps, after := #[], guard := none } := by
    refine ⟨((ops15[0]?).map (fun o => o.pos)).getD "", ?_⟩
    simp only [ops15, blk1, rnd1, cd7, bodyM, inner, rt, lf, opsOf, Try.f10, Option.getD_some]
    rfl
  refine goes_call (c := Go.ConcR.Gen.body_add link) (f := 18) (args := #[.tmp 8, .const (.int .i64 1)]) (ats := #[66, 3]) ho rfl (by k_ne) rfl wgLib.f_add rfl rfl ⟨⟨rfl, rfl⟩, ?_⟩
  have := goes_imp (R := Rz V) (R' := Rz V) (fun _ _ x => x) (fun _ _ _ x => x) (fun g w h => h) (add_walk (mn := mn) (Wg := wg) (b₀ := base 10) (a₀ := ⟨T, []⟩) (ops₀ := ops15) (i₀ := 0) (rest₀ := []) (k₀ := .code (rt (rt (rt (rt blk1)))) :: todo1) (cs := cs) wgLib hnW hKr hKs v hv w hF)
  refine Goes.mono (n := 12) ?_ (by omega)
  simp only [show (Go.Conc.Lib.addFn link).ntmps = 117 from rfl, List.map_toArray, List.map_cons, List.map_nil, Act.eval, h8, List.size_toArray, List.length_cons, List.length_nil, Nat.reduceAdd, Nat.reduceSub, Array.replicate_succ, Array.replicate_zero, List.push_toArray, List.append_toArray, List.nil_append, List.cons_append]
  exact this

set_option maxRecDepth 100000 in
/-- Behind Add, to the go statement. -/
theorem h_go (hrl : ∀ w w', Q w → R w w' → Q w') {ps wk tk : Value} {n i wg ev bi bt bw : Nat} (cs : List Frame) (w : World) (hF : Q w) (T : Array Value) (hs : Sl ps wk tk n i wg ev bi bt bw T) :
    Goes Try.prog mn R (HDq X) (fun g w => Q w ∧ ∃ T, Sl ps wk tk n i wg ev bi bt bw T ∧ T.getD 49 undef = .func (.func 19) #[] #[pb wg, pb bw, pb bt, pb ev, pb bi] ∧ g = G (fRun T (.inRegion opsGo [1] :: todo1)) cs) 8
      (G ((base 10).at (Act.put ⟨T, []⟩ (((ops15)[0]?).bind (·.dst)) (.tuple #[])) (.inRegion ops15 [] :: .code (rt (rt (rt (rt blk1)))) :: todo1)) cs) w := by
  obtain ⟨hT, h0, h7, h6, h8, h33, h34, h35, h9, h10, h11⟩ := hs
  obtain ⟨v0, v1, v2, v3, v4, v5, v6, v7, v8, v9, v10, v11, v12, v13, v14, v15, v16, v17, v18, v19, v20, v21, v22, v23, v24, v25, v26, v27, v28, v29, v30, v31, v32, v33, v34, v35, v36, v37, v38, v39, v40, v41, v42, v43, v44, v45, v46, v47, v48, v49, v50, v51, v52, v53, v54, v55, v56, v57, v58, v59, v60, v61, v62, v63, v64, v65, v66, v67, v68, v69, v70, v71, v72, v73, v74, v75, v76, v77, v78, rfl⟩ := array79 T hT
  simp only [List.getElem?_toArray, List.getElem?_cons_zero, List.getElem?_cons_succ, Option.some.injEq] at h0 h7 h6 h8 h33 h34 h35 h9 h10 h11
  subst h0
  subst h7
  subst h6
  subst h8
  subst h33
  subst h34
  subst h35
  subst h9
  subst h10
  subst h11
  simp only [fRun, ops15, opsGo, todo1, blk1, rnd1, cd7, bodyM, inner, rt, lf, opsOf, Try.f10, Option.getD_some]
  walk_nrm
  refine Goes.step rfl (fun w hr => ?_)
  replace hF := (hrl _ _) hF hr
  clear hr
  rw [stepG_region_end]
  simp only [goes_go]
  refine ⟨hdq_idle _ _, ?_⟩
  refine Goes.step rfl (fun w hr => ?_)
  replace hF := (hrl _ _) hF hr
  clear hr
  rw [stepG_region]
  simp only [goes_go, List.size_toArray, List.length_cons, List.length_nil, Nat.reduceAdd, Nat.zero_add, List.range, List.range.loop]
  refine ⟨hdq_idle _ _, ?_⟩
  refine Goes.step rfl (fun w hr => ?_)
  replace hF := (hrl _ _) hF hr
  clear hr
  refine goes_oper_k rfl rfl (by k_ne) (fun K hK => ?_)
  go_simp
  refine hK _ _ ⟨?_, ?_⟩
  · rw [listed_nil (by simp [go_sem])]; exact hdq_idle _ _
  clear hK K
  try walk_nrm
  refine Goes.stop (fun w hr => ⟨hrl _ _ hF hr, ?_⟩)
  refine ⟨_, ?_, rfl, rfl⟩
  constructor <;> rfl
end
end

/-! ### NwI4 -/
section
set_option linter.unusedSimpArgs false
open Go Go.Conc Go.RowKit Go.ConcR.Gen Cw
section
variable {X : Cx} {R : World → World → Prop} {Q : World → Prop} {mn : Bool}
set_option maxRecDepth 100000 in
theorem h_end {Stop : Goroutine → World → Prop} {m : Nat} (hrl : ∀ w w', Q w → R w w' → Q w') {wk tk : Value} {a : Option Addr} {np cp n wg ev : Nat} (cs : List Frame) (g : Goroutine) (w : World) (hF : Q w) (hg : Head1 (.slice a np cp) wk tk n n wg ev cs g) (hN : ∀ g w, Head2 wk (.slice a np cp) np 0 wg ev cs g → Q w → Goes Try.prog mn R (HDq X) Stop m g w) :
    Goes Try.prog mn R (HDq X) Stop (m + 16) g w := by
  obtain ⟨T, hT, h0, h7, h6, h8, h33, h34, h35, rfl⟩ := hg
  obtain ⟨v0, v1, v2, v3, v4, v5, v6, v7, v8, v9, v10, v11, v12, v13, v14, v15, v16, v17, v18, v19, v20, v21, v22, v23, v24, v25, v26, v27, v28, v29, v30, v31, v32, v33, v34, v35, v36, v37, v38, v39, v40, v41, v42, v43, v44, v45, v46, v47, v48, v49, v50, v51, v52, v53, v54, v55, v56, v57, v58, v59, v60, v61, v62, v63, v64, v65, v66, v67, v68, v69, v70, v71, v72, v73, v74, v75, v76, v77, v78, rfl⟩ := array79 T hT
  simp only [List.getElem?_toArray, List.getElem?_cons_zero, List.getElem?_cons_succ, Option.some.injEq] at h0 h7 h6 h8 h33 h34 h35
  subst h0
  subst h7
  subst h6
  subst h8
  subst h33
  subst h34
  subst h35
  simp only [rnd1, cd7, cd8, bodyM, inner, rt, lf, Try.f10, Option.getD_some]
  refine Goes.step rfl (fun w hr => ?_)
  replace hF := (hrl _ _) hF hr
  clear hr
  rw [stepG_seq]
  simp only [goes_go]
  refine ⟨hdq_idle _ _, ?_⟩
  refine Goes.step rfl (fun w hr => ?_)
  replace hF := (hrl _ _) hF hr
  clear hr
  rw [stepG_region]
  simp only [goes_go, List.size_toArray, List.length_cons, List.length_nil, Nat.reduceAdd, Nat.zero_add, List.range, List.range.loop]
  refine ⟨hdq_idle _ _, ?_⟩
  refine Goes.step rfl (fun w hr => ?_)
  replace hF := (hrl _ _) hF hr
  clear hr
  refine goes_oper_k rfl rfl (by k_ne) (fun K hK => ?_)
  go_simp
  refine hK _ _ ⟨?_, ?_⟩
  · rw [listed_nil (by simp [go_sem])]; exact hdq_idle _ _
  clear hK K
  try walk_nrm
  refine Goes.step rfl (fun w hr => ?_)
  replace hF := (hrl _ _) hF hr
  clear hr
  rw [stepG_region_end]
  simp only [goes_go]
  refine ⟨hdq_idle _ _, ?_⟩
  refine Goes.step rfl (fun w hr => ?_)
  replace hF := (hrl _ _) hF hr
  clear hr
  rw [stepG_seq]
  simp only [goes_go]
  refine ⟨hdq_idle _ _, ?_⟩
  refine Goes.step rfl (fun w hr => ?_)
  replace hF := (hrl _ _) hF hr
  clear hr
  rw [stepG_cond (t := false) (by first | rfl | (simp [Act.eval]; omega))]
  simp only [goes_go, if_true, if_false, Bool.false_eq_true, ↓reduceIte]
  refine ⟨hdq_idle _ _, ?_⟩
  refine Goes.step rfl (fun w hr => ?_)
  replace hF := (hrl _ _) hF hr
  clear hr
  refine goes_exit rfl ?_
  refine ⟨hdq_idle _ _, ?_⟩
  refine Goes.step rfl (fun w hr => ?_)
  replace hF := (hrl _ _) hF hr
  clear hr
  rw [stepG_seq]
  simp only [goes_go]
  refine ⟨hdq_idle _ _, ?_⟩
  refine Goes.step rfl (fun w hr => ?_)
  replace hF := (hrl _ _) hF hr
  clear hr
  rw [stepG_seq]
  simp only [goes_go]
  refine ⟨hdq_idle _ _, ?_⟩
  refine Goes.step rfl (fun w hr => ?_)
  replace hF := (hrl _ _) hF hr
  clear hr
  rw [stepG_region]
  simp only [goes_go, List.size_toArray, List.length_cons, List.length_nil, Nat.reduceAdd, Nat.zero_add, List.range, List.range.loop]
  refine ⟨hdq_idle _ _, ?_⟩
  refine Goes.step rfl (fun w hr => ?_)
  replace hF := (hrl _ _) hF hr
  clear hr
  refine goes_oper_k rfl rfl (by k_ne) (fun K hK => ?_)
  go_simp
  refine hK _ _ ⟨?_, ?_⟩
  · rw [listed_nil (by simp [go_sem])]; exact hdq_idle _ _
  clear hK K
  try walk_nrm
  refine Goes.step rfl (fun w hr => ?_)
  replace hF := (hrl _ _) hF hr
  clear hr
  refine goes_oper_k rfl rfl (by k_ne) (fun K hK => ?_)
  go_simp
  refine hK _ _ ⟨?_, ?_⟩
  · rw [listed_nil (by simp [go_sem])]; exact hdq_idle _ _
  clear hK K
  try walk_nrm
  refine Goes.step rfl (fun w hr => ?_)
  replace hF := (hrl _ _) hF hr
  clear hr
  refine goes_oper_k rfl rfl (by k_ne) (fun K hK => ?_)
  go_simp
  refine hK _ _ ⟨?_, ?_⟩
  · rw [listed_nil (by simp [go_sem])]; exact hdq_idle _ _
  clear hK K
  try walk_nrm
  refine Goes.step rfl (fun w hr => ?_)
  replace hF := (hrl _ _) hF hr
  clear hr
  rw [stepG_region_end]
  simp only [goes_go]
  refine ⟨hdq_idle _ _, ?_⟩
  refine Goes.step rfl (fun w hr => ?_)
  replace hF := (hrl _ _) hF hr
  clear hr
  rw [stepG_block]
  simp only [goes_go]
  refine ⟨hdq_idle _ _, ?_⟩
  refine Goes.step rfl (fun w hr => ?_)
  replace hF := (hrl _ _) hF hr
  clear hr
  rw [stepG_loop]
  simp only [goes_go]
  refine ⟨hdq_idle _ _, ?_⟩
  refine hN _ _ ⟨_, ?_, ?_, ?_, ?_, ?_, ?_, ?_, rfl⟩ hF <;> rfl
end
end

/-! ### NwY1 -/
section
set_option linter.unusedSimpArgs false
open Go Go.Conc Go.RowKit Go.ConcR.Gen Cw
open Go.ConcN (sumTo upd upd_same upd_ne)

/-! ### runs -/
def Lands (P : Program) (m : Machine) (T : Trace) (Post : Machine → Trace → Prop) : Prop := ∃ N m' T', runNT P N m T = (.next m', T') ∧ Post m' T'
theorem Lands.done {P : Program} {m : Machine} {T : Trace} {Post : Machine → Trace → Prop} (h : Post m T) : Lands P m T Post := ⟨0, m, T, rfl, h⟩
theorem Lands.bind {P : Program} {m : Machine} {T : Trace} {A B : Machine → Trace → Prop} (h : Lands P m T A) (k : ∀ m' T', A m' T' → Lands P m' T' B) : Lands P m T B := by
  obtain ⟨N, m', T', hr, hA⟩ := h
  obtain ⟨N', m'', T'', hr', hB⟩ := k m' T' hA
  exact ⟨N + N', m'', T'', by rw [runNT_add, hr]; exact hr', hB⟩
theorem Lands.mono {P : Program} {m : Machine} {T : Trace} {A B : Machine → Trace → Prop} (h : Lands P m T A) (k : ∀ m' T', A m' T' → B m' T') : Lands P m T B := h.bind fun m' T' x => Lands.done (k m' T' x)

/-- The world of the run's beginning: what is outside memory is its own to the end. -/
class Ref where
  w : World
def Outs [R0 : Ref] (w : World) : Prop := w.os = R0.w.os ∧ w.output = R0.w.output
theorem Outs.of [R0 : Ref] {w w' : World} (h : Outs w) (e : w'.os = w.os ∧ w'.output = w.output) : Outs w' := ⟨e.1.trans h.1, e.2.trans h.2⟩
/-- The frame, and what is outside memory. -/
structure CrewI [Ref] (P : Program) (X : Cx) (V : Nat → Prop) (h dh : Nat) (B : Nat → By) (Rd : Nat → Loc → Prop) (cn : Nat → Nat) (T : Trace) (gs : Array Goroutine) (w : World) (q : Nat → Nat × Nat) : Prop extends Crew P X V h dh B Rd cn T gs w q where
  sys : Outs w
theorem CrewI.crew [Ref] {P : Program} {X : Cx} {V : Nat → Prop} {h dh : Nat} {B : Nat → By} {Rd : Nat → Loc → Prop} {cn : Nat → Nat} {T : Trace} {gs : Array Goroutine} {w : World} {q : Nat → Nat × Nat} (C : CrewI P X V h dh B Rd cn T gs w q) : Crew P X V h dh B Rd cn T gs w q := C.toCrewM
section
variable [Ref] (P : Program) (X : Cx) (V : Nat → Prop) (h dh n : Nat) (Bp : (Nat → By) → (Nat → Nat) → Prop) (K : Goroutine → World → Prop)
/-- Goroutine h holds; 'Bp' says what the others are about. -/
def Held (m : Machine) (T : Trace) : Prop :=
  ∃ gs w sl q Rd B cn g, m = crowd gs w sl ∧ gs.size = n ∧ gs[h]? = some g ∧ K g w ∧ Bp B cn ∧ CrewI P X V h dh B Rd cn T gs w q
end
section
variable [Ref] {P : Program} {X : Cx} {V : Nat → Prop} {h dh n : Nat} {Bp : (Nat → By) → (Nat → Nat) → Prop} {K K' : Goroutine → World → Prop}
/-- It is not turned by what the others do meanwhile. -/
def Stb (h : Nat) (Bp : (Nat → By) → (Nat → Nat) → Prop) : Prop := ∀ B cn B' cn', Bp B cn → Later h B cn B' cn' → Bp B' cn'
theorem Held.walk {m : Machine} {T : Trace} (H : Held P X V h dh n Bp K m T) (hst : Stb h Bp) (hw : ∀ g w, K g w → ∃ k, Goes P (h == 0) (Ext V) (HDq X) K' k g w) : Lands P m T (Held P X V h dh n Bp K') := by
  obtain ⟨gs, w, sl, q, Rd, B, cn, g, rfl, hn, hg, hK, hB, C⟩ := H
  obtain ⟨k, hG⟩ := hw g w hK
  obtain ⟨N, gs', a', w', sl', T', q', Rd', B', cn', hr, hsz, ha', hS, hl, C', hE⟩ := C.crew.hold_walk (sl := sl) (rely_ext V B h) (fun _ _ _ x y => x.trans y) (fun _ _ _ x => x) hg hG
  exact ⟨N, _, _, hr, gs', w', sl', q', Rd', B', cn', a', rfl, hsz.trans hn, ha', hS, hst _ _ _ _ hB hl, ⟨C', C.sys.of hE.io⟩⟩
theorem Held.one {m : Machine} {T : Trace} {dh' : Nat} (H : Held P X V h dh n Bp K m T) (hst : Stb h Bp) (hw : ∀ g w, K g w → g.status = .running ∧ ∀ w₁, Ext V w w₁ → ∃ a' w' es, stepG P (h == 0) g w₁ = .go a' w' es ∧ HD X w₁ w' es ∧ deafBehind dh es = dh' ∧ K' a' w') : Lands P m T (Held P X V h dh' n Bp K') := by
  obtain ⟨gs, w, sl, q, Rd, B, cn, g, rfl, hn, hg, hK, hB, C⟩ := H
  obtain ⟨hrun, hG⟩ := hw g w hK
  obtain ⟨N, gs', a', w', sl', T', q', Rd', B', cn', hr, hsz, ha', hS, hl, C', hE⟩ := C.crew.hold_one (sl := sl) (rely_ext V B h) (fun _ _ _ x y => x.trans y) hg hrun hG
  exact ⟨N, _, _, hr, gs', w', sl', q', Rd', B', cn', a', rfl, hsz.trans hn, ha', hS, hst _ _ _ _ hB hl, ⟨C', C.sys.of hE.io⟩⟩
theorem Held.mono {m : Machine} {T : Trace} {Bp' : (Nat → By) → (Nat → Nat) → Prop} (H : Held P X V h dh n Bp K m T) (hK : ∀ g w, K g w → K' g w) (hB : ∀ B cn, Bp B cn → Bp' B cn) : Held P X V h dh n Bp' K' m T := by
  obtain ⟨gs, w, sl, q, Rd, B, cn, g, rfl, hn, hg, hk, hb, C⟩ := H
  exact ⟨gs, w, sl, q, Rd, B, cn, g, rfl, hn, hg, hK _ _ hk, hB _ _ hb, C⟩
end

/-! ### the workers -/
/-- The numbers of a worker's blocks: main's variables w, t, i of its round; its record; its channels. -/
structure Wk where
  bw : Nat
  bt : Nat
  bi : Nat
  bs : Nat
  cr : Nat
  cp : Nat
def Wk.blocks (r : Wk) : List Nat := [r.bw, r.bt, r.bi, r.bs, r.cr, r.cp]
/-- What is fixed for a run: the workers so far; the row of workers, the events, the group; N₀: what is older than the call; B₁: the run's own blocks lie below; γ: the number of goroutines at the call; h: whose call it is; what is not the run's: the groups at work, the blocks that others turn, the group of each goroutine, the blocks that are no boxes, what the other goroutines are about. -/
structure Rb where
  ks : List Wk
  wb : Nat
  ev : Nat
  wg : Nat
  N₀ : Nat
  B₁ : Nat
  γ : Nat
  h : Nat
  Fon : Nat → Prop
  FV : Nat → Prop
  Fwg : Nat → Nat
  Ex : Nat → Prop
  FB : (Nat → By) → (Nat → Nat) → Prop
/-- What may grow: B₀: all that is fixed lies below; n: the number of goroutines; Sh: what is shared; what is not the run's: still cells, seats' channels. -/
structure Re where
  B₀ : Nat
  n : Nat
  Sh : Loc → Prop
  FSt : Addr → Prop
  FCh : Nat → Prop
structure Rc extends Rb, Re
/-- The same run, with other extras. -/
abbrev Rc.wi (c : Rc) (e : Re) : Rc := { toRb := c.toRb, toRe := e }
def Rc.St (c : Rc) (a : Addr) : Prop := (∃ r ∈ c.ks, a = ⟨r.bw, 0, none⟩ ∨ a = ⟨r.bt, 0, none⟩ ∨ a = ⟨r.bi, 0, none⟩ ∨ a = ⟨r.bs, 0, none⟩ ∨ a = ⟨r.bs, 1, none⟩) ∨ c.FSt a
def Rc.X (c : Rc) (on : Prop) : Cx := { St := c.St, Bx := BxW, Ex := c.Ex, Lo := fun b => b < c.N₀, Ch := fun x => (∃ r ∈ c.ks, x = r.cr ∨ x = r.cp) ∨ c.FCh x, Sh := c.Sh, wg := fun i => if c.γ ≤ i then c.wg else c.Fwg i, ty := link.tWg, on := fun b => c.Fon b ∨ (on ∧ b = c.wg) }
abbrev Rc.V (c : Rc) : Nat → Prop := fun b => b = c.wg ∨ c.FV b
/-- What is not the run's. -/
def Rc.Fr (c : Rc) (b : Nat) : Prop := b < c.N₀ ∨ (c.B₁ ≤ b ∧ b < c.B₀)
/-- What is kept of the others. -/
structure FbOk (γ h N₀ : Nat) (FB : (Nat → By) → (Nat → Nat) → Prop) : Prop where
  st : ∀ h' B cn B' cn', (h' = h ∨ (γ ≤ h' ∧ ∃ x z hm, B h = .seat x z hm)) → FB B cn → Later h' B cn B' cn' → FB B' cn'
  up : ∀ B cn B' cn', (∀ j, j < γ → j ≠ h → B' j = B j) → (∀ j, j < γ → cn' j = cn j) → FB B cn → FB B' cn'
  ch : ∀ B cn j x z hm, FB B cn → j < γ → j ≠ h → B j = .seat x z hm → x < N₀
structure Rs (c : Rc) : Prop where
  inj : ∀ (k k' : Nat) (r r' : Wk), c.ks[k]? = some r → c.ks[k']? = some r' → k ≠ k' → r.bs ≠ r'.bs ∧ r.cr ≠ r'.cr ∧ r.cr ≠ r'.cp ∧ r.cp ≠ r'.cp
  ne : ∀ r ∈ c.ks, r.cr ≠ r.cp
  rng : ∀ r ∈ c.ks, ∀ b ∈ r.blocks, c.N₀ ≤ b ∧ b < c.B₁ ∧ b ≠ c.wg ∧ b ≠ c.wb ∧ b ≠ c.ev
  wb : c.N₀ ≤ c.wb ∧ c.wb < c.B₁ ∧ c.wb ≠ c.wg ∧ c.wb ≠ c.ev
  ev : c.N₀ ≤ c.ev ∧ c.ev < c.B₁ ∧ c.ev ≠ c.wg
  wg : c.N₀ ≤ c.wg ∧ c.wg < c.B₁
  b10 : c.B₁ ≤ c.B₀
  sh : ∀ a, c.Sh (.cell a) → c.Fr a.block ∨ a.block = c.wg
  shw : ∀ a : Addr, c.V a.block → c.Sh (.cell a)
  one : c.h < c.γ
  gn : c.γ + c.ks.length ≤ c.n
  fst : ∀ a, c.FSt a → c.Fr a.block
  fch : ∀ x, c.FCh x → c.Fr x ∧ ¬ c.FV x
  fv : ∀ b, c.FV b → b < c.N₀
  fon : ∀ b, c.Fon b → b < c.N₀
  ex : ∀ b, c.Ex b → b < c.N₀
  fwg : ∀ i, i < c.γ → c.Fwg i ≠ c.wg
  fb : FbOk c.γ c.h c.N₀ c.FB
/-- Worker number k in memory. -/
structure WkAt (r : Wk) (k : Nat) (tv : Value) (e : Bool) (w : World) : Prop where
  hbw : w.heap[r.bw]? = some (.cells #[pb r.bs] 67 (0, 0))
  hbt : w.heap[r.bt]? = some (.cells #[tv] 50 (0, 0))
  hbi : w.heap[r.bi]? = some (.cells #[.int .i64 k] 3 (0, 0))
  hbs : w.heap[r.bs]? = some (.cells #[.chan (some r.cr), .chan (some r.cp), .bool e] 71 (0, 0))
  hcr : ∃ j, w.heap[r.cr]? = some (.chan 0 #[] false j j false)
  hcp : ∃ j, w.heap[r.cp]? = some (.chan 0 #[] false j j false)
/-- The world between two turns, but for the events. -/
structure WI (c : Rc) (tv : Nat → Value) (en : Nat → Bool) (Tm : World → Prop) (w : World) : Prop where
  wk : ∀ (k : Nat) (r : Wk), c.ks[k]? = some r → WkAt r k (tv k) (en k) w
  wb : ∃ ws : Array Value, w.heap[c.wb]? = some (.cells ws 67 (0, 0)) ∧ ∀ (k : Nat) (r : Wk), c.ks[k]? = some r → ws[k]? = some (pb r.bs)
  tm : Tm w
  size : c.B₀ ≤ w.heap.size
  shg : ∀ a, c.Sh (.cell a) → a.block < c.N₀ ∨ a.block = c.wg ∨ ∃ st sm, Go.ConcR.WgAt link.tWg a.block w st sm
section
variable {c : Rc} {tv : Nat → Value} {en : Nat → Bool} {Tm : World → Prop} {w w' : World} {r : Wk} {k : Nat} {e : Bool} {v : Value} {on : Prop}
theorem WkAt.same (h : WkAt r k v e w) (hs : ∀ b ∈ r.blocks, w'.heap[b]? = w.heap[b]?) : WkAt r k v e w' := by
  obtain ⟨j, hj⟩ := h.hcr
  obtain ⟨i, hi⟩ := h.hcp
  exact ⟨(hs _ (by simp [Wk.blocks])).trans h.hbw, (hs _ (by simp [Wk.blocks])).trans h.hbt, (hs _ (by simp [Wk.blocks])).trans h.hbi, (hs _ (by simp [Wk.blocks])).trans h.hbs, ⟨j, (hs _ (by simp [Wk.blocks])).trans hj⟩, ⟨i, (hs _ (by simp [Wk.blocks])).trans hi⟩⟩
theorem shg_to (H : ∀ a, c.Sh (.cell a) → a.block < c.N₀ ∨ a.block = c.wg ∨ ∃ st sm, Go.ConcR.WgAt link.tWg a.block w st sm) (hx : ∀ b st sm, (∃ a : Addr, a.block = b ∧ c.Sh (.cell a)) → c.N₀ ≤ b → b ≠ c.wg → Go.ConcR.WgAt link.tWg b w st sm → w'.heap[b]? = w.heap[b]?) : ∀ a, c.Sh (.cell a) → a.block < c.N₀ ∨ a.block = c.wg ∨ ∃ st sm, Go.ConcR.WgAt link.tWg a.block w' st sm := fun a ha => by
  by_cases h1 : a.block < c.N₀
  · exact .inl h1
  by_cases h2 : a.block = c.wg
  · exact .inr (.inl h2)
  · obtain ⟨st, sm, h⟩ := ((H a ha).resolve_left h1).resolve_left h2
    exact .inr (.inr ⟨st, sm, (hx _ st sm ⟨a, rfl, ha⟩ (Nat.le_of_not_lt h1) h2 h).trans h⟩)
theorem mem_of_get (h : c.ks[k]? = some r) : r ∈ c.ks := List.mem_of_getElem? h
theorem WI.same (S : Rs c) (H : WI c tv en Tm w) (hsz : w.heap.size ≤ w'.heap.size) (hs : ∀ b, c.N₀ ≤ b → b < c.B₁ → b ≠ c.wg → b ≠ c.ev → w'.heap[b]? = w.heap[b]?) (hx : ∀ b st sm, (∃ a : Addr, a.block = b ∧ c.Sh (.cell a)) → c.N₀ ≤ b → b ≠ c.wg → Go.ConcR.WgAt link.tWg b w st sm → w'.heap[b]? = w.heap[b]?) (ht : Tm w → Tm w') : WI c tv en Tm w' := by
  obtain ⟨ws, h1, h2⟩ := H.wb
  refine ⟨fun k r hk => (H.wk k r hk).same fun b hb => ?_, ⟨ws, (hs _ S.wb.1 S.wb.2.1 S.wb.2.2.1 S.wb.2.2.2).trans h1, h2⟩, ht H.tm, Nat.le_trans H.size hsz, shg_to (H.shg) hx⟩
  obtain ⟨a1, a2, a3, a4, a5⟩ := S.rng r (mem_of_get hk) b hb
  exact hs b a1 a2 a3 a5
/-- The tasks' memory is older than the call. -/
def Old (N₀ : Nat) (FV : Nat → Prop) (Tm : World → Prop) : Prop := ∀ w w', (∀ b, b < N₀ → ¬ FV b → w'.heap[b]? = w.heap[b]?) → Tm w → Tm w'
theorem Rs.lt (S : Rs c) : c.N₀ ≤ c.B₀ := by have := S.wg; have := S.b10; omega
theorem Rs.lt1 (S : Rs c) : c.N₀ ≤ c.B₁ := by have := S.wg; omega
theorem Rs.nfv (S : Rs c) {b : Nat} (h : c.N₀ ≤ b) : ¬ c.FV b := fun x => by have := S.fv b x; omega
theorem Rs.nv (S : Rs c) {b : Nat} (h : c.N₀ ≤ b) (h' : b ≠ c.wg) : ¬ c.V b := fun x => x.elim h' (S.nfv h)
theorem Rs.nv0 (S : Rs c) {b : Nat} (h : b < c.N₀) (h' : ¬ c.FV b) : ¬ c.V b := fun x => x.elim (fun e => by have := S.wg; omega) h'
theorem Rs.nfr (S : Rs c) {b : Nat} (h : c.N₀ ≤ b) (h' : b < c.B₁) : ¬ c.Fr b := fun x => by
  rcases x with x | x <;> omega
theorem WI.ext (S : Rs c) (hO : Old c.N₀ c.FV Tm) (H : WI c tv en Tm w) (E : Ext c.V w w') : WI c tv en Tm w' :=
  H.same S E.size (fun b hn hb hg _ => E.same b (by have := H.size; have := S.b10; omega) (S.nv hn hg)) (fun b st sm _ hn hg h => E.same b (Array.getElem?_eq_some_iff.1 h).1 (S.nv hn hg)) (hO w w' fun b hb hv => E.same b (by have := H.size; have := S.lt; omega) (S.nv0 hb hv))
theorem WI.only (S : Rs c) (hO : Old c.N₀ c.FV Tm) (H : WI c tv en Tm w) (E : OnlyEv (c.X on) c.ev w w') : WI c tv en Tm w' := by
  have hold : ∀ b, b < c.N₀ → ¬ c.FV b → w'.heap[b]? = w.heap[b]? := fun b hb _ => E.same b (by have := H.size; have := S.lt; omega) (by have := S.ev; omega) (.inr (.inl hb))
  have hw : ∀ (k : Nat) (r : Wk), c.ks[k]? = some r → ∀ b ∈ r.blocks, w'.heap[b]? = w.heap[b]? := by
    intro k r hk b hb
    obtain ⟨a1, a2, a3, a4, a5⟩ := S.rng r (mem_of_get hk) b hb
    refine E.same b (by have := H.size; have := S.b10; omega) a5 (.inl fun cs hc => ?_)
    have h := H.wk k r hk
    obtain ⟨j, hj⟩ := h.hcr
    obtain ⟨i, hi⟩ := h.hcp
    simp only [Wk.blocks, List.mem_cons, List.not_mem_nil, or_false] at hb
    rcases hb with rfl | rfl | rfl | rfl | rfl | rfl
    · rw [h.hbw] at hc; cases hc
    · rw [h.hbt] at hc; cases hc
    · rw [h.hbi] at hc; cases hc
    · rw [h.hbs] at hc; cases hc
    · rw [hj] at hc; cases hc
    · rw [hi] at hc; cases hc
  obtain ⟨ws, h1, h2⟩ := H.wb
  refine ⟨fun k r hk => (H.wk k r hk).same (hw k r hk), ⟨ws, ?_, h2⟩, hO w w' hold H.tm, Nat.le_trans H.size E.size, shg_to H.shg fun b st sm ⟨a, ha, hsa⟩ hn hg h => E.same b (Array.getElem?_eq_some_iff.1 h).1 (fun e => (S.sh a hsa).elim (fun hf => S.nfr S.ev.1 S.ev.2.1 (by rw [← e, ← ha]; exact hf)) fun hf => hg (ha.symm.trans hf)) (.inl fun cs hc => by rw [Go.ConcR.WgAt] at h; rw [h] at hc; cases hc)⟩
  rw [E.same c.wb (by have := H.size; have := S.wb; have := S.b10; omega) S.wb.2.2.2 (.inl fun cs hc => by rw [h1] at hc; cases hc)]
  exact h1
/-- A channel of a worker's is used. -/
theorem heap_setChan_ne (w : World) (a : Nat) (cap : Nat) (buf : Array Value) (cl : Bool) (s t : Nat) (tm : Bool) {b : Nat} (h : b ≠ a) : (w.setChan a cap buf cl s t tm).heap[b]? = w.heap[b]? := by
  unfold World.setChan
  simp [Array.getElem?_setIfInBounds, Ne.symm h]
theorem heap_setChan_self (w : World) (a : Nat) (cap : Nat) (buf : Array Value) (cl : Bool) (s t : Nat) (tm : Bool) (h : a < w.heap.size) : (w.setChan a cap buf cl s t tm).heap[a]? = some (.chan cap buf cl s t tm) := by
  unfold World.setChan
  simp [Array.getElem?_setIfInBounds, h]
theorem size_setChan' (w : World) (a : Nat) (cap : Nat) (buf : Array Value) (cl : Bool) (s t : Nat) (tm : Bool) : (w.setChan a cap buf cl s t tm).heap.size = w.heap.size := by
  unfold World.setChan
  simp
theorem WI.chan (hO : Old c.N₀ c.FV Tm) (H : WI c tv en Tm w) {x j : Nat} (hx : c.N₀ ≤ x) (hc : w.heap[x]? = some (.chan 0 #[] false j j false)) (i : Nat) : WI c tv en Tm (w.setChan x 0 #[] false i i false) := by
  have hlt := (Array.getElem?_eq_some_iff.1 hc).1
  have ne : ∀ {b : Nat} {cs : Array Value} {ty : TypeId} {fr : Nat × Nat}, w.heap[b]? = some (.cells cs ty fr) → b ≠ x := fun hb e => by rw [e, hc] at hb; cases hb
  have hs := fun {b : Nat} (hb : b ≠ x) => heap_setChan_ne w x 0 #[] false i i false hb
  have hch : ∀ {b : Nat}, (∃ j, w.heap[b]? = some (.chan 0 #[] false j j false)) → ∃ j, (w.setChan x 0 #[] false i i false).heap[b]? = some (.chan 0 #[] false j j false) := by
    rintro b ⟨j', hj'⟩
    by_cases e : b = x
    · subst e; exact ⟨i, heap_setChan_self w _ _ _ _ _ _ _ hlt⟩
    · exact ⟨j', (hs e).trans hj'⟩
  obtain ⟨ws, h1, h2⟩ := H.wb
  refine ⟨fun k r hk => ?_, ⟨ws, (hs (ne h1)).trans h1, h2⟩, hO w _ (fun b hb _ => hs (by omega)) H.tm, by rw [size_setChan']; exact H.size, shg_to H.shg fun b st sm _ hn hg h => hs fun e => by rw [Go.ConcR.WgAt, e, hc] at h; cases h⟩
  have h := H.wk k r hk
  exact ⟨(hs (ne h.hbw)).trans h.hbw, (hs (ne h.hbt)).trans h.hbt, (hs (ne h.hbi)).trans h.hbi, (hs (ne h.hbs)).trans h.hbs, hch h.hcr, hch h.hcp⟩
theorem Evs.chan {X : Cx} {V : Nat → Prop} {ev : Nat} {E : List (Int × ByteArray)} {u : Value} (H : Evs X V ev E u w) {x j : Nat} (hc : w.heap[x]? = some (.chan 0 #[] false j j false)) (i : Nat) : Evs X V ev E u (w.setChan x 0 #[] false i i false) := by
  have hs := fun {b : Nat} (hb : b ≠ x) => heap_setChan_ne w x 0 #[] false i i false hb
  refine ⟨(hs fun e => by have := H.cell; rw [e, hc] at this; cases this).trans H.cell, ⟨H.row.1, ?_⟩, H.ok⟩
  rcases H.row.2 with hn | ⟨g, cap, cur, rfl, hb, hgg, rest⟩
  · exact .inl hn
  · exact .inr ⟨g, cap, cur, rfl, hb, (hs fun e => by rw [e, hc] at hgg; cases hgg).trans hgg, rest⟩
end
end
end Go.Proofs.Ytggfcdhkgldbfaa
