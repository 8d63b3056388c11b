/-
  PARTS of a claim, merged by segs.py: NwR3, NwK, NwJ.
-/
import Derived.Test.YtggfcdhkgldbfaaN14
import Derived.Test.YtggfcdhkgldbfaaN15
import Derived.Test.YtggfcdhkgldbfaaN13
namespace Go.Proofs.Ytggfcdhkgldbfaa
set_option linter.unusedSimpArgs false
set_option linter.unusedVariables false

/-! ### NwR3 -/
section
set_option linter.unusedSimpArgs false
open Go Go.Conc Go.RowKit Go.ConcR.Gen Cw

/-- What main is about to do inside Wait. -/
def InWait (mn : Bool) (wg ev : Nat) (cs : List Frame) (g : Goroutine) : Prop :=
  ∃ T : Array Value, T.size = 79 ∧ T[6]? = some (pb ev) ∧ g.status = .running ∧ ∀ w₁, ∃ g', stepG Try.prog mn g w₁ = .go g' w₁ #[Go.ConcR.mk .disable] ∧ (Go.ConcN.WgLive link.tWg wg w₁ →
    ∃ m, Goes Try.prog mn (RLive link.tWg wg) Cw.D0 (Go.ConcN.Gen.AnchWN link (fun _ => True) wg ((base 10).at ⟨T, []⟩ (.inRegion (opsOf (lf cd10)) [0] :: [.code (rt cd10)])) cs) m g' w₁)

set_option maxRecDepth 100000 in
set_option maxHeartbeats 2000000 in
theorem t_wait {mn : Bool} {X : Cx} {R : World → World → Prop} {Q : World → Prop} (hRt : ∀ a b c, R a b → R b c → R a c) (hrl : ∀ w w', Q w → R w w' → Q w') {wg ev : Nat} (cs : List Frame) (g : Goroutine) (w : World) (hF : Q w) (hg : AtWait wg ev cs g) :
    Goes Try.prog mn R (HDq X) (fun g _ => InWait mn wg ev cs g) 6 g w := by
  obtain ⟨T, hT, h6, h8, rfl⟩ := hg
  have hT' := hT
  have h6' := h6
  obtain ⟨v0, v1, v2, v3, v4, v5, v6, v7, v8, v9, v10, v11, v12, v13, v14, v15, v16, v17, v18, v19, v20, v21, v22, v23, v24, v25, v26, v27, v28, v29, v30, v31, v32, v33, v34, v35, v36, v37, v38, v39, v40, v41, v42, v43, v44, v45, v46, v47, v48, v49, v50, v51, v52, v53, v54, v55, v56, v57, v58, v59, v60, v61, v62, v63, v64, v65, v66, v67, v68, v69, v70, v71, v72, v73, v74, v75, v76, v77, v78, rfl⟩ := array79 T hT
  simp only [List.getElem?_toArray, List.getElem?_cons_zero, List.getElem?_cons_succ, Option.some.injEq] at h8
  subst h8
  generalize ht : (#[v0, v1, v2, v3, v4, v5, v6, v7, pb wg, v9, v10, v11, v12, v13, v14, v15, v16, v17, v18, v19, v20, v21, v22, v23, v24, v25, v26, v27, v28, v29, v30, v31, v32, v33, v34, v35, v36, v37, v38, v39, v40, v41, v42, v43, v44, v45, v46, v47, v48, v49, v50, v51, v52, v53, v54, v55, v56, v57, v58, v59, v60, v61, v62, v63, v64, v65, v66, v67, v68, v69, v70, v71, v72, v73, v74, v75, v76, v77, v78] : Array Value) = T at *
  have h8 : T.getD 8 undef = pb wg := by subst ht; rfl
  have hd : ∀ (w w' : World) (es : Array Event), Cw.D0 w w' es → HDq X w w' es := fun w w' es h => by obtain ⟨rfl, rfl⟩ := h; exact hdq_idle X _
  refine Goes.step rfl (fun w hr => ?_)
  clear hr
  refine goes_call (c := Go.ConcR.Gen.body_wait link) (f := 24) (args := #[.tmp 8]) (ats := #[66]) rfl rfl (by k_ne) rfl wgLib.f_wait rfl rfl ⟨hdq_idle _ _, ?_⟩
  have := goes_imp (R := R) (R' := R) (fun _ _ x => x) hd (fun g w h => (⟨T, hT', h6', h⟩ : InWait mn wg ev cs g)) (wait_start (Wg := wg) (b₀ := base 10) (a₀ := ⟨T, []⟩) (ops₀ := opsOf (lf cd10)) (i₀ := 0) (rest₀ := []) (k₀ := [.code (rt cd10)]) (cs := cs) wgLib (R := R) w)
  refine Goes.mono (n := 3) ?_ (by omega)
  simp only [show (Go.Conc.Lib.waitFn link).ntmps = 84 from rfl, List.map_toArray, List.map_cons, List.map_nil, Act.eval, h8, List.size_toArray, List.length_cons, List.length_nil, Nat.reduceAdd, Nat.reduceSub, Array.replicate_succ, Array.replicate_zero, List.push_toArray, List.append_toArray, List.nil_append, List.cons_append]
  exact this

set_option maxRecDepth 100000 in
/-- Behind Wait: Run returns. -/
theorem t_ret {X : Cx} {R : World → World → Prop} {Q : World → Prop} {mn : Bool} {Stop : Goroutine → World → Prop} {m : Nat} (hrl : ∀ w w', Q w → R w w' → Q w') {ev : Nat} (u : Value) (hc : ∀ w, Q w → w.cell? ⟨ev, 0, none⟩ = some u) (hsh : ¬ X.Sh (.cell ⟨ev, 0, none⟩)) (hu : ∃ a n c, u = .slice a n c) {b₀ : Frame} {a₀ : Act} {ops : Array Oper} {j : Nat} {rest : List Nat} {k : List Item} (cs : List Frame) (w : World) (hF : Q w) (T : Array Value) (hT : T.size = 79) (h6 : T[6]? = some (pb ev))
    (hN : ∀ w, Q w → Goes Try.prog mn R (HDq X) Stop m (G (b₀.at (a₀.put ((ops[j]?).bind (·.dst)) (.tuple #[u, .int .i64 0])) (.inRegion ops rest :: k)) cs) w) :
    Goes Try.prog mn R (HDq X) Stop (m + 9) (G ((base 10).at (Act.put ⟨T, []⟩ (((opsOf (lf cd10))[0]?).bind (·.dst)) (.tuple #[])) (.inRegion (opsOf (lf cd10)) [] :: [.code (rt cd10)])) (b₀.at a₀ (.inRegion ops (j :: rest) :: k) :: cs)) w := by
  obtain ⟨a, n, c, rfl⟩ := hu
  obtain ⟨v0, v1, v2, v3, v4, v5, v6, v7, v8, v9, v10, v11, v12, v13, v14, v15, v16, v17, v18, v19, v20, v21, v22, v23, v24, v25, v26, v27, v28, v29, v30, v31, v32, v33, v34, v35, v36, v37, v38, v39, v40, v41, v42, v43, v44, v45, v46, v47, v48, v49, v50, v51, v52, v53, v54, v55, v56, v57, v58, v59, v60, v61, v62, v63, v64, v65, v66, v67, v68, v69, v70, v71, v72, v73, v74, v75, v76, v77, v78, rfl⟩ := array79 T hT
  simp only [List.getElem?_toArray, List.getElem?_cons_zero, List.getElem?_cons_succ, Option.some.injEq] at h6
  subst h6
  simp only [cd10, cd9, cd8, bodyM, rt, lf, opsOf, Try.f10, Option.getD_some]
  walk_nrm
  refine Goes.step rfl (fun w hr => ?_)
  replace hF := (hrl _ _) hF hr
  clear hr
  rw [stepG_region_end]
  simp only [goes_go]
  refine ⟨hdq_idle _ _, ?_⟩
  refine Goes.step rfl (fun w hr => ?_)
  replace hF := (hrl _ _) hF hr
  clear hr
  rw [stepG_seq]
  simp only [goes_go]
  refine ⟨hdq_idle _ _, ?_⟩
  refine Goes.step rfl (fun w hr => ?_)
  replace hF := (hrl _ _) hF hr
  clear hr
  rw [stepG_region]
  simp only [goes_go, List.size_toArray, List.length_cons, List.length_nil, Nat.reduceAdd, Nat.zero_add, List.range, List.range.loop]
  refine ⟨hdq_idle _ _, ?_⟩
  refine Goes.step rfl (fun w hr => ?_)
  replace hF := (hrl _ _) hF hr
  clear hr
  have hcx := hc w hF
  refine goes_oper_k rfl rfl (by k_ne) (fun K hK => ?_)
  go_simp
  refine hK _ _ ⟨?_, ?_⟩
  · refine hdq_read (fun e he => ?_)
    have hm := mem_listed he
    simp [go_sem, *] at hm
    exact ⟨_, hm, block_of_cell hcx, hsh⟩
  clear hK K
  try walk_nrm
  refine Goes.step rfl (fun w hr => ?_)
  replace hF := (hrl _ _) hF hr
  clear hr
  refine goes_oper_k rfl rfl (by k_ne) (fun K hK => ?_)
  go_simp
  refine hK _ _ ⟨?_, ?_⟩
  · rw [listed_nil (by simp [go_sem])]; exact hdq_idle _ _
  clear hK K
  try walk_nrm
  refine Goes.step rfl (fun w hr => ?_)
  replace hF := (hrl _ _) hF hr
  clear hr
  refine goes_oper_k rfl rfl (by k_ne) (fun K hK => ?_)
  go_simp
  refine hK _ _ ⟨?_, ?_⟩
  · rw [listed_nil (by simp [go_sem])]; exact hdq_idle _ _
  clear hK K
  try walk_nrm
  refine Goes.step rfl (fun w hr => ?_)
  replace hF := (hrl _ _) hF hr
  clear hr
  rw [stepG_region_end]
  simp only [goes_go]
  refine ⟨hdq_idle _ _, ?_⟩
  refine Goes.step rfl (fun w hr => ?_)
  replace hF := (hrl _ _) hF hr
  clear hr
  rw [stepG_ret']
  simp only [goes_go]
  refine ⟨hdq_idle _ _, ?_⟩
  refine Goes.step rfl (fun w hr => ?_)
  replace hF := (hrl _ _) hF hr
  clear hr
  refine goes_leave2 rfl rfl Try.func10 rfl ⟨hdq_idle _ _, ?_⟩
  exact hN _ hF
end

/-! ### NwK -/
section
set_option linter.unusedSimpArgs false
open Go Go.Conc Go.RowKit Go.ConcR.Gen Cw

noncomputable def cd7 : Code := rt (rt (rt (rt (rt (rt (rt bodyM))))))
noncomputable def rnd1 : Code := inner (inner (rt (lf cd7)))
/-- At the head of the spawn loop: task number i is next. -/
def Head1 (ps wk tk : Value) (n i wg ev : Nat) (cs : List Frame) (g : Goroutine) : Prop :=
  ∃ T : Array Value, T.size = 79 ∧ T[0]? = some ps ∧ T[7]? = some wk ∧ T[6]? = some (pb ev) ∧ T[8]? = some (pb wg) ∧ T[33]? = some tk ∧ T[34]? = some (.int .i64 n) ∧ T[35]? = some (.int .i64 i) ∧
    g = G ((base 10).at ⟨T, []⟩ [.code rnd1, .inLoop rnd1, .inBlock 0, .code cd8]) cs
/-- What is left of a round behind the block. -/
noncomputable def todo1 : List Item := [.inBlock 1, .code (rt (rt (rt rnd1))), .inLoop rnd1, .inBlock 0, .code cd8]
noncomputable def blk1 : Code := inner (lf (rt (rt rnd1)))
noncomputable def opsGo : Array Oper := opsOf (rt (rt (rt (rt blk1))))

theorem go_spawn {mn : Bool} (wg bw bt ev bi : Nat) (T : Array Value) (h49 : T.getD 49 undef = .func (.func 19) #[] #[pb wg, pb bw, pb bt, pb ev, pb bi]) (cs : List Frame) (w : World) :
    stepG Try.prog mn (G ((base 10).at ⟨T, []⟩ (.inRegion opsGo [1] :: todo1)) cs) w = .spawn (G ((base 10).at ⟨T, []⟩ (.inRegion opsGo [] :: todo1)) cs) (born Try.prog (callW wg bw bt ev bi)) w #[] := by
  obtain ⟨ps, ho⟩ : ∃ ps, opsGo[1]? = some { dst := none, op := .go { callee := .value (.tmp 49), args := #[], argTypes := #[] }, type := 0, pos := ps, after := #[{ on := 0, ground := .data }], guard := none } := by
    refine ⟨((opsGo[1]?).map (fun o => o.pos)).getD "", ?_⟩
    simp only [opsGo, blk1, rnd1, cd7, bodyM, inner, rt, lf, opsOf, Try.f10, Option.getD_some]
    rfl
  refine (stepG_spawn ho rfl (by k_ne) (d := callW wg bw bt ev bi) (w' := w) ?_ rfl).trans ?_
  · simp [execOp, resolve, Deferred.ofValue, Act.eval, h49, callW]
  · rw [listed_nil (by simp [execOp, resolve, Deferred.ofValue, Act.eval, h49])]
    rfl

section
variable {X : Cx} {R : World → World → Prop} {Q : World → Prop} {mn : Bool}
set_option maxRecDepth 100000 in
/-- Behind the go statement, to the loop's head. -/
theorem h_next {Stop : Goroutine → World → Prop} {m : Nat} (hrl : ∀ w w', Q w → R w w' → Q w') {ps wk tk : Value} {n i wg ev : Nat} (hi : i < n) (hn : n < 9223372036854775807) (cs : List Frame) (w : World) (hF : Q w) (T : Array Value) (hT : T.size = 79) (h0 : T[0]? = some ps) (h7 : T[7]? = some wk) (h6 : T[6]? = some (pb ev)) (h8 : T[8]? = some (pb wg)) (h33 : T[33]? = some tk) (h34 : T[34]? = some (.int .i64 n)) (h35 : T[35]? = some (.int .i64 i))
    (hN : ∀ g w, Head1 ps wk tk n (i + 1) wg ev cs g → Q w → Goes Try.prog mn R (HDq X) Stop m g w) :
    Goes Try.prog mn R (HDq X) Stop (m + 7) (G ((base 10).at ⟨T, []⟩ (.inRegion opsGo [] :: todo1)) cs) w := by
  have hwr : IntKind.i64.wrap ((i : Int) + 1) = ((i + 1 : Nat) : Int) := by rw [IntKind.wrap_i64]; omega
  obtain ⟨v0, v1, v2, v3, v4, v5, v6, v7, v8, v9, v10, v11, v12, v13, v14, v15, v16, v17, v18, v19, v20, v21, v22, v23, v24, v25, v26, v27, v28, v29, v30, v31, v32, v33, v34, v35, v36, v37, v38, v39, v40, v41, v42, v43, v44, v45, v46, v47, v48, v49, v50, v51, v52, v53, v54, v55, v56, v57, v58, v59, v60, v61, v62, v63, v64, v65, v66, v67, v68, v69, v70, v71, v72, v73, v74, v75, v76, v77, v78, rfl⟩ := array79 T hT
  simp only [List.getElem?_toArray, List.getElem?_cons_zero, List.getElem?_cons_succ, Option.some.injEq] at h0 h7 h6 h8 h33 h34 h35
  subst h0
  subst h7
  subst h6
  subst h8
  subst h33
  subst h34
  subst h35
  unfold todo1
  simp only [opsGo, blk1, rnd1, cd8, cd7, bodyM, inner, rt, lf, opsOf, Try.f10, Option.getD_some]
  refine Goes.step rfl (fun w hr => ?_)
  replace hF := (hrl _ _) hF hr
  clear hr
  rw [stepG_region_end]
  simp only [goes_go]
  refine ⟨hdq_idle _ _, ?_⟩
  refine Goes.step rfl (fun w hr => ?_)
  replace hF := (hrl _ _) hF hr
  clear hr
  rw [stepG_inBlock]
  simp only [goes_go]
  refine ⟨hdq_idle _ _, ?_⟩
  refine Goes.step rfl (fun w hr => ?_)
  replace hF := (hrl _ _) hF hr
  clear hr
  rw [stepG_region]
  simp only [goes_go, List.size_toArray, List.length_cons, List.length_nil, Nat.reduceAdd, Nat.zero_add, List.range, List.range.loop]
  refine ⟨hdq_idle _ _, ?_⟩
  refine Goes.step rfl (fun w hr => ?_)
  replace hF := (hrl _ _) hF hr
  clear hr
  refine goes_oper_k rfl rfl (by k_ne) (fun K hK => ?_)
  go_simp
  refine hK _ _ ⟨?_, ?_⟩
  · rw [listed_nil (by simp [go_sem])]; exact hdq_idle _ _
  clear hK K
  try walk_nrm
  refine Goes.step rfl (fun w hr => ?_)
  replace hF := (hrl _ _) hF hr
  clear hr
  refine goes_oper_k rfl rfl (by k_ne) (fun K hK => ?_)
  go_simp
  refine hK _ _ ⟨?_, ?_⟩
  · rw [listed_nil (by simp [go_sem])]; exact hdq_idle _ _
  clear hK K
  try walk_nrm
  refine Goes.step rfl (fun w hr => ?_)
  replace hF := (hrl _ _) hF hr
  clear hr
  rw [stepG_region_end]
  simp only [goes_go]
  refine ⟨hdq_idle _ _, ?_⟩
  refine Goes.step rfl (fun w hr => ?_)
  replace hF := (hrl _ _) hF hr
  clear hr
  rw [stepG_inLoop]
  simp only [goes_go]
  refine ⟨hdq_idle _ _, ?_⟩
  refine hN _ _ ⟨_, ?_, ?_, ?_, ?_, ?_, ?_, ?_, ?_, rfl⟩ hF <;> rfl
end
end

/-! ### NwJ -/
section
set_option linter.unusedSimpArgs false
open Go Go.Conc Go.RowKit Go.ConcR.Gen Cw

theorem events_store_int (P : Program) (w : World) (es : Array Event) (a : Addr) (m : Mode) (k : IntKind) (n : Int) : (store a (.int k n) m).events P w es = storedEv P w es a (.int k n) m := events_store P w es a _ m rfl
theorem events_store_iface (P : Program) (w : World) (es : Array Event) (a : Addr) (m : Mode) (t : TypeId) (v : Value) : (store a (.iface t v) m).events P w es = storedEv P w es a (.iface t v) m := events_store P w es a _ m rfl
theorem q_rl {Q : World → Prop} {V : Nat → Prop} {l : List (Nat × Obj)} (hrl : ∀ w w', Q w → Rz V w w' → Q w') {w w' : World} (h : Q w ∧ ∀ x ∈ l, w.heap[x.1]? = some x.2 ∧ ¬ V x.1) (r : Rz V w w') : Q w' ∧ ∀ x ∈ l, w'.heap[x.1]? = some x.2 ∧ ¬ V x.1 :=
  ⟨hrl _ _ h.1 r, fun x hx => ⟨(r.same x.1 (Array.getElem?_eq_some_iff.1 (h.2 x hx).1).1 (h.2 x hx).2).trans (h.2 x hx).1, (h.2 x hx).2⟩⟩
/-- Behind the boxes of a round. -/
def AtBoxed (ps wk tk : Value) (n i wg ev bi bt : Nat) (cs : List Frame) (g : Goroutine) : Prop :=
  ∃ T : Array Value, T.size = 79 ∧ T[0]? = some ps ∧ T[7]? = some wk ∧ T[6]? = some (pb ev) ∧ T[8]? = some (pb wg) ∧ T[33]? = some tk ∧ T[34]? = some (.int .i64 n) ∧ T[35]? = some (.int .i64 i) ∧ T[9]? = some (pb bi) ∧ T[10]? = some (pb bt) ∧
    g = G ((base 10).at ⟨T, []⟩ (.code (rt blk1) :: todo1)) cs
section
variable {X : Cx} {V : Nat → Prop} {Q : World → Prop} {mn : Bool}
set_option maxRecDepth 100000 in
theorem h_boxes (hrl : ∀ w w', Q w → Rz V w w' → Q w') {N₀ : Nat} (hfl : Floor X V N₀) (hbx : X.Bx = BxW) (hQn : ∀ w, Q w → N₀ ≤ w.heap.size) (hQa : ∀ w o, Q w → Q (w.alloc o)) (hQs : ∀ w b v, N₀ ≤ b → Q w → Q (w.setCell ⟨b, 0, none⟩ v)) {ps wk : Value} {p o cap n i wg ev : Nat} {ty : TypeId} {xv : Value} (hi : i < n) (hc : ∀ w, Q w → w.cell? ⟨p, o + i, none⟩ = some (.iface ty xv)) (hsp : ∀ k, ¬ X.Sh (.cell ⟨p, k, none⟩)) (cs : List Frame) (g : Goroutine) (w : World) (hF : Q w ∧ ∀ x ∈ ([] : List (Nat × Obj)), w.heap[x.1]? = some x.2 ∧ ¬ V x.1)
    (hg : Head1 ps wk (.slice (some ⟨p, o, none⟩) n cap) n i wg ev cs g) :
    Goes Try.prog mn (Rz V) (HDq X) (fun g w => ∃ bi bt, N₀ ≤ bi ∧ N₀ ≤ bt ∧ AtBoxed ps wk (.slice (some ⟨p, o, none⟩) n cap) n i wg ev bi bt cs g ∧ Q w ∧ ∀ x ∈ [(bi, Obj.cells #[.int .i64 i] 3 (0, 0)), (bt, Obj.cells #[.iface ty xv] 50 (0, 0))], w.heap[x.1]? = some x.2 ∧ ¬ V x.1) 30 g w := by
  obtain ⟨T, hT, h0, h7, h6, h8, h33, h34, h35, rfl⟩ := hg
  obtain ⟨v0, v1, v2, v3, v4, v5, v6, v7, v8, v9, v10, v11, v12, v13, v14, v15, v16, v17, v18, v19, v20, v21, v22, v23, v24, v25, v26, v27, v28, v29, v30, v31, v32, v33, v34, v35, v36, v37, v38, v39, v40, v41, v42, v43, v44, v45, v46, v47, v48, v49, v50, v51, v52, v53, v54, v55, v56, v57, v58, v59, v60, v61, v62, v63, v64, v65, v66, v67, v68, v69, v70, v71, v72, v73, v74, v75, v76, v77, v78, rfl⟩ := array79 T hT
  simp only [List.getElem?_toArray, List.getElem?_cons_zero, List.getElem?_cons_succ, Option.some.injEq] at h0 h7 h6 h8 h33 h34 h35
  subst h0
  subst h7
  subst h6
  subst h8
  subst h33
  subst h34
  subst h35
  have hii : (i : Int) < (n : Int) := by omega
  simp only [rnd1, cd7, bodyM, inner, rt, lf, Try.f10, Option.getD_some]
  refine Goes.step rfl (fun w hr => ?_)
  replace hF := (q_rl hrl) hF hr
  clear hr
  rw [stepG_seq]
  simp only [goes_go]
  refine ⟨hdq_idle _ _, ?_⟩
  refine Goes.step rfl (fun w hr => ?_)
  replace hF := (q_rl hrl) hF hr
  clear hr
  rw [stepG_region]
  simp only [goes_go, List.size_toArray, List.length_cons, List.length_nil, Nat.reduceAdd, Nat.zero_add, List.range, List.range.loop]
  refine ⟨hdq_idle _ _, ?_⟩
  refine Goes.step rfl (fun w hr => ?_)
  replace hF := (q_rl hrl) hF hr
  clear hr
  refine goes_oper_k rfl rfl (by k_ne) (fun K hK => ?_)
  go_simp
  refine hK _ _ ⟨?_, ?_⟩
  · rw [listed_nil (by simp [go_sem])]; exact hdq_idle _ _
  clear hK K
  try walk_nrm
  refine Goes.step rfl (fun w hr => ?_)
  replace hF := (q_rl hrl) hF hr
  clear hr
  rw [stepG_region_end]
  simp only [goes_go]
  refine ⟨hdq_idle _ _, ?_⟩
  refine Goes.step rfl (fun w hr => ?_)
  replace hF := (q_rl hrl) hF hr
  clear hr
  rw [stepG_seq]
  simp only [goes_go]
  refine ⟨hdq_idle _ _, ?_⟩
  refine Goes.step rfl (fun w hr => ?_)
  replace hF := (q_rl hrl) hF hr
  clear hr
  rw [stepG_cond (t := true) (by first | rfl | (simp [Act.eval]; omega))]
  simp only [goes_go, if_true, if_false, Bool.false_eq_true, ↓reduceIte]
  refine ⟨hdq_idle _ _, ?_⟩
  refine Goes.step rfl (fun w hr => ?_)
  replace hF := (q_rl hrl) hF hr
  clear hr
  rw [stepG_skip]
  simp only [goes_go]
  refine ⟨hdq_idle _ _, ?_⟩
  refine Goes.step rfl (fun w hr => ?_)
  replace hF := (q_rl hrl) hF hr
  clear hr
  rw [stepG_seq]
  simp only [goes_go]
  refine ⟨hdq_idle _ _, ?_⟩
  refine Goes.step rfl (fun w hr => ?_)
  replace hF := (q_rl hrl) hF hr
  clear hr
  rw [stepG_block]
  simp only [goes_go]
  refine ⟨hdq_idle _ _, ?_⟩
  refine Goes.step rfl (fun w hr => ?_)
  replace hF := (q_rl hrl) hF hr
  clear hr
  rw [stepG_seq]
  simp only [goes_go]
  refine ⟨hdq_idle _ _, ?_⟩
  refine Goes.step rfl (fun w hr => ?_)
  replace hF := (q_rl hrl) hF hr
  clear hr
  rw [stepG_region]
  simp only [goes_go, List.size_toArray, List.length_cons, List.length_nil, Nat.reduceAdd, Nat.zero_add, List.range, List.range.loop]
  refine ⟨hdq_idle _ _, ?_⟩
  refine Goes.step rfl (fun w hr => ?_)
  replace hF := (q_rl hrl) hF hr
  clear hr
  refine goes_oper_k rfl rfl (by k_ne) (fun K hK => ?_)
  go_simp
  refine hK _ _ ⟨?_, ?_⟩
  · rw [listed_nil (by simp [go_sem])]; exact hdq_idle _ _
  clear hK K
  try walk_nrm
  refine Goes.step rfl (fun w hr => ?_)
  replace hF := (q_rl hrl) hF hr
  clear hr
  refine goes_oper_k rfl rfl (by k_ne) (fun K hK => ?_)
  go_simp
  refine hK _ _ ⟨?_, ?_⟩
  · rw [listed_nil (by simp [go_sem, *])]; exact hdq_idle _ _
  clear hK K
  try walk_nrm
  refine Goes.step rfl (fun w hr => ?_)
  replace hF := (q_rl hrl) hF hr
  clear hr
  have hc := hc w hF.1
  refine goes_oper_k rfl rfl (by k_ne) (fun K hK => ?_)
  go_simp
  refine hK _ _ ⟨?_, ?_⟩
  · refine hdq_read (fun e he => ?_)
    have hm := mem_listed he
    simp [go_sem, *] at hm
    exact ⟨_, hm, block_of_cell hc, hsp _⟩
  clear hK K hc
  try walk_nrm
  refine Goes.step rfl (fun w hr => ?_)
  replace hF := (q_rl hrl) hF hr
  clear hr
  refine goes_oper_k rfl rfl (by k_ne) (fun K hK => ?_)
  go_simp
  have hnbi := hQn w hF.1
  refine hK _ _ ⟨?_, ?_⟩
  · rw [listed_nil (by simp [go_sem])]
    exact hdq_alloc (fun a ha => Nat.lt_of_lt_of_le (hfl.st a ha) hnbi) (fun c hc => Nat.lt_of_lt_of_le (hfl.ch c hc) hnbi) (fun b o => Nat.lt_of_lt_of_le (hfl.wg b o) hnbi) (by simp)
  clear hK K
  try walk_nrm
  have hltbi : ∀ x ∈ ([] : List (Nat × Obj)), x.1 ≠ w.heap.size := fun x hx => Nat.ne_of_lt (Array.getElem?_eq_some_iff.1 (hF.2 x hx).1).1
  replace hF : Q (w.alloc (Obj.cells #[.int .i64 0] 3 (0, 0))) ∧ ∀ x ∈ (w.heap.size, Obj.cells #[.int .i64 0] 3 (0, 0)) :: ([] : List (Nat × Obj)), (w.alloc (Obj.cells #[.int .i64 0] 3 (0, 0))).heap[x.1]? = some x.2 ∧ ¬ V x.1 := by
    refine ⟨hQa w _ hF.1, fun x hx => ?_⟩
    rcases List.mem_cons.1 hx with rfl | hx
    · exact ⟨heap_alloc_new w _, (hfl.ok hnbi).nv⟩
    · rw [heap_alloc_old w _ _ (Array.getElem?_eq_some_iff.1 (hF.2 x hx).1).1]; exact hF.2 x hx
  generalize w.heap.size = bi at *
  generalize w.alloc _ = w at *
  refine Goes.step rfl (fun w hr => ?_)
  replace hF := (q_rl hrl) hF hr
  clear hr
  refine goes_oper_k rfl rfl (by k_ne) (fun K hK => ?_)
  go_simp
  have hnbt := hQn w hF.1
  refine hK _ _ ⟨?_, ?_⟩
  · rw [listed_nil (by simp [go_sem])]
    exact hdq_alloc (fun a ha => Nat.lt_of_lt_of_le (hfl.st a ha) hnbt) (fun c hc => Nat.lt_of_lt_of_le (hfl.ch c hc) hnbt) (fun b o => Nat.lt_of_lt_of_le (hfl.wg b o) hnbt) (by simp)
  clear hK K
  try walk_nrm
  have hltbt : ∀ x ∈ ([(bi, Obj.cells #[.int .i64 0] 3 (0, 0))] : List (Nat × Obj)), x.1 ≠ w.heap.size := fun x hx => Nat.ne_of_lt (Array.getElem?_eq_some_iff.1 (hF.2 x hx).1).1
  replace hF : Q (w.alloc (Obj.cells #[.nilIface] 50 (0, 0))) ∧ ∀ x ∈ (w.heap.size, Obj.cells #[.nilIface] 50 (0, 0)) :: ([(bi, Obj.cells #[.int .i64 0] 3 (0, 0))] : List (Nat × Obj)), (w.alloc (Obj.cells #[.nilIface] 50 (0, 0))).heap[x.1]? = some x.2 ∧ ¬ V x.1 := by
    refine ⟨hQa w _ hF.1, fun x hx => ?_⟩
    rcases List.mem_cons.1 hx with rfl | hx
    · exact ⟨heap_alloc_new w _, (hfl.ok hnbt).nv⟩
    · rw [heap_alloc_old w _ _ (Array.getElem?_eq_some_iff.1 (hF.2 x hx).1).1]; exact hF.2 x hx
  generalize w.heap.size = bt at *
  generalize w.alloc _ = w at *
  have hne : bi ≠ bt := hltbt (bi, Obj.cells #[.int .i64 0] 3 (0, 0)) (by simp)
  clear hltbi hltbt
  refine Goes.step rfl (fun w hr => ?_)
  replace hF := (q_rl hrl) hF hr
  clear hr
  have hb := (hF.2 (bi, Obj.cells #[.int .i64 0] 3 (0, 0)) (by simp)).1
  have hc : w.cell? ⟨bi, 0, none⟩ = some (.int .i64 0) := by simp [World.cell?, hb]
  have hz : w.frozen? ⟨bi, 0, none⟩ = false := by simp [World.frozen?, hb]
  refine goes_oper_k rfl rfl (by k_ne) (fun K hK => ?_)
  go_simp
  try (unfold stored; go_simp)
  refine hK _ _ ⟨?_, ?_⟩
  · refine (hfl.ok hnbi).write (block_of_cell hc) ?_ (fun e he => ?_)
    · rintro ⟨v, ty', hv, hb', _⟩
      rw [hb] at hv
      cases hv
      rw [hbx] at hb'
      rcases hb' with ⟨_, _, e | ⟨e, _⟩⟩ | e <;> cases e
    · have hm := mem_listed he
      simp [go_sem, events_store_int, events_store_iface, storedEv, *] at hm
      exact hm
  clear hK K hc hz
  try walk_nrm
  replace hF : Q (w.setCell ⟨bi, 0, none⟩ (.int .i64 i)) ∧ ∀ x ∈ ([(bt, Obj.cells #[.nilIface] 50 (0, 0)), (bi, Obj.cells #[.int .i64 i] 3 (0, 0))] : List (Nat × Obj)), (w.setCell ⟨bi, 0, none⟩ (.int .i64 i)).heap[x.1]? = some x.2 ∧ ¬ V x.1 := by
    refine ⟨hQs w _ _ hnbi hF.1, fun y hy => ?_⟩
    simp only [List.mem_cons, List.not_mem_nil, or_false] at hy
    rcases hy with rfl | rfl
    · first | (refine ⟨?_, by first | exact (hfl.ok hnbi).nv | exact (hfl.ok hnbt).nv⟩; simp [World.setCell, Array.getElem?_modify, hb]; done) | (rw [heap_setCell_ne w _ _ (by first | exact hne | exact hne.symm)]; exact hF.2 _ (by simp))
    · first | (refine ⟨?_, by first | exact (hfl.ok hnbi).nv | exact (hfl.ok hnbt).nv⟩; simp [World.setCell, Array.getElem?_modify, hb]; done) | (rw [heap_setCell_ne w _ _ (by first | exact hne | exact hne.symm)]; exact hF.2 _ (by simp))
  clear hb
  generalize w.setCell ⟨bi, 0, none⟩ (.int .i64 i) = w at *
  refine Goes.step rfl (fun w hr => ?_)
  replace hF := (q_rl hrl) hF hr
  clear hr
  have hb := (hF.2 (bt, Obj.cells #[.nilIface] 50 (0, 0)) (by simp)).1
  have hc : w.cell? ⟨bt, 0, none⟩ = some (.nilIface) := by simp [World.cell?, hb]
  have hz : w.frozen? ⟨bt, 0, none⟩ = false := by simp [World.frozen?, hb]
  refine goes_oper_k rfl rfl (by k_ne) (fun K hK => ?_)
  go_simp
  try (unfold stored; go_simp)
  refine hK _ _ ⟨?_, ?_⟩
  · refine (hfl.ok hnbt).write (block_of_cell hc) ?_ (fun e he => ?_)
    · rintro ⟨v, ty', hv, hb', _⟩
      rw [hb] at hv
      cases hv
      rw [hbx] at hb'
      rcases hb' with ⟨_, _, e | ⟨e, _⟩⟩ | e <;> cases e
    · have hm := mem_listed he
      simp [go_sem, events_store_int, events_store_iface, storedEv, *] at hm
      exact hm
  clear hK K hc hz
  try walk_nrm
  replace hF : Q (w.setCell ⟨bt, 0, none⟩ (.iface ty xv)) ∧ ∀ x ∈ ([(bi, Obj.cells #[.int .i64 i] 3 (0, 0)), (bt, Obj.cells #[.iface ty xv] 50 (0, 0))] : List (Nat × Obj)), (w.setCell ⟨bt, 0, none⟩ (.iface ty xv)).heap[x.1]? = some x.2 ∧ ¬ V x.1 := by
    refine ⟨hQs w _ _ hnbt hF.1, fun y hy => ?_⟩
    simp only [List.mem_cons, List.not_mem_nil, or_false] at hy
    rcases hy with rfl | rfl
    · first | (refine ⟨?_, by first | exact (hfl.ok hnbi).nv | exact (hfl.ok hnbt).nv⟩; simp [World.setCell, Array.getElem?_modify, hb]; done) | (rw [heap_setCell_ne w _ _ (by first | exact hne | exact hne.symm)]; exact hF.2 _ (by simp))
    · first | (refine ⟨?_, by first | exact (hfl.ok hnbi).nv | exact (hfl.ok hnbt).nv⟩; simp [World.setCell, Array.getElem?_modify, hb]; done) | (rw [heap_setCell_ne w _ _ (by first | exact hne | exact hne.symm)]; exact hF.2 _ (by simp))
  clear hb
  generalize w.setCell ⟨bt, 0, none⟩ (.iface ty xv) = w at *
  refine Goes.step rfl (fun w hr => ?_)
  replace hF := (q_rl hrl) hF hr
  clear hr
  rw [stepG_region_end]
  simp only [goes_go]
  refine ⟨hdq_idle _ _, ?_⟩
  refine Goes.stop (fun w hr => ⟨bi, bt, hnbi, hnbt, ⟨_, ?_, ?_, ?_, ?_, ?_, ?_, ?_, ?_, ?_, ?_, rfl⟩, q_rl hrl hF hr⟩) <;> rfl
end
end
end Go.Proofs.Ytggfcdhkgldbfaa
