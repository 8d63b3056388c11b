/-
  PARTS of a claim, merged by segs.py: NwN, NwF.
-/
import Derived.Test.YtggfcdhkgldbfaaN10
namespace Go.Proofs.Ytggfcdhkgldbfaa
set_option linter.unusedSimpArgs false
set_option linter.unusedVariables false

/-! ### NwN -/
section
set_option linter.unusedSimpArgs false
open Go Go.Conc Go.RowKit Go.ConcR.Gen Cw

theorem goes_then {P : Program} {main : Bool} {R : World → World → Prop} {D : World → World → Array Event → Prop} {S S' : Goroutine → World → Prop} {m : Nat} (hR : ∀ a b c, R a b → R b c → R a c) (h2 : ∀ g w, S g w → Goes P main R D S' m g w) :
    ∀ {n : Nat} {g : Goroutine} {w : World}, R w w → Goes P main R D S n g w → (∀ a, R a a) → Goes P main R D S' (n + m) g w
  | 0, g, w, hr, h, _ => by
    rw [Nat.zero_add]
    exact h2 g w (h w hr)
  | n + 1, g, w, hr, h, hrr => by
    rcases h with h | ⟨hs, h⟩
    · exact Goes.mono (h2 g w (h w hr)) (by omega)
    · rw [show n + 1 + m = (n + m) + 1 by omega]
      refine Goes.step hs fun w₁ h₁ => ?_
      have := h w₁ h₁
      cases e : stepG P main g w₁ with
      | go g' w' es => rw [e, goes_go] at this; exact ⟨this.1, goes_then hR h2 (hrr w') this.2 hrr⟩
      | _ => rw [e] at this; exact this.elim

noncomputable def bodyN : Code := Try.f68.body.getD .skip
/-- The loop's round. -/
noncomputable def rndN : Code := inner (inner (rt bodyN))
abbrev yldF (b1 b2 : Nat) : Value := .func (.func 41) #[] #[pb b2, pb b1]
/-- The notes: strings that nobody turns. -/
def Nts (a : Option Addr) (S : List ByteArray) (w : World) : Prop := S = [] ∨ ∃ p o, a = some ⟨p, o, none⟩ ∧ ∀ k s, S[k]? = some s → w.cell? ⟨p, o + k, none⟩ = some (.string s)
/-- At the loop's head. -/
noncomputable def headN (a : Option Addr) (n c : Nat) (yf : Value) (j : Nat) (y0 y1 y2 y3 y4 y5 y6 y7 : Value) (cs : List Frame) : Goroutine :=
  G ((base 68).at ⟨#[.slice a n c, yf, undef, undef, undef, y0, .slice a n c, .int .i64 n, .int .i64 j, y1, y2, y3, y4, y5, y6, y7], []⟩ [.code rndN, .inLoop rndN, .inBlock 0]) cs
/-- What the task has still to do when it yields. -/
noncomputable def todoN : List Item := [.inBlock 1, .code (rt (rt (rt rndN))), .inLoop rndN, .inBlock 0]
noncomputable def opsN : Array Oper := opsOf (rt (inner (lf (rt (rt rndN)))))
noncomputable def actN (a : Option Addr) (n c : Nat) (yf : Value) (j : Nat) (s : ByteArray) (x0 x1 x2 x3 : Value) : Act :=
  ⟨#[.slice a n c, yf, undef, undef, undef, .string s, .slice a n c, .int .i64 n, .int .i64 j, .bool true, x0, x1, yf, .string s, x2, x3], []⟩

set_option maxRecDepth 100000 in
theorem n_yield {X : Cx} {V : Nat → Prop} {B : Nat} {L : Addr → Value → Prop} {ev : Nat} {Tk Q : World → Prop} (fx : Fx X V B L ev Tk) (hq : ∀ w w', Ext V w w' → Q w → Q w') {a : Option Addr} {S : List ByteArray} {c : Nat} (hS : ∀ w, Tk w → Nts a S w) (hSh : ∀ p o, a = some ⟨p, o, none⟩ → ∀ k, ¬ X.Sh (.cell ⟨p, k, none⟩))
    (b1 b2 : Nat) (j : Nat) (s : ByteArray) (hj : S[j]? = some s) (y0 y1 y2 y3 y4 y5 y6 y7 : Value) (cs : List Frame) (w : World) (hF : WB X B L Tk w ∧ Q w) :
    Goes Try.prog false (Ext V) (HDq X) (fun g w => (∃ x0 x1 x2 x3, g = G ((base 41).at ⟨#[.string s, pb b2, pb b1, undef, undef, undef, undef, undef, undef, undef, undef, undef, undef, undef, undef, undef], []⟩ [.code bodyY])
      ((base 68).at (actN a S.length c (yldF b1 b2) j s x0 x1 x2 x3) (.inRegion opsN [2] :: todoN) :: cs)) ∧ WB X B L Tk w ∧ Q w) 30 (headN a S.length c (yldF b1 b2) j y0 y1 y2 y3 y4 y5 y6 y7 cs) w := by

  have hlt : j < S.length := (List.getElem?_eq_some_iff.1 hj).1
  have hji : (j : Int) < (S.length : Int) := by omega
  have hne : S ≠ [] := fun e => by subst e; simp at hlt
  obtain ⟨p, o, rfl⟩ : ∃ p o, a = some ⟨p, o, none⟩ := (hS w hF.1.task).elim (fun e => absurd e hne) fun ⟨p, o, e, _⟩ => ⟨p, o, e⟩
  have hcell : ∀ w, Tk w → w.cell? ⟨p, o + j, none⟩ = some (.string s) := fun w hw => (hS w hw).elim (fun e => absurd e hne) fun ⟨p', o', e, h⟩ => by
    cases e; exact h j s hj
  unfold headN
  simp only [rndN, bodyN, inner, rt, Try.f68, Option.getD_some]
  refine Goes.step rfl (fun w hr => ?_)
  replace hF := (wb_rl fx hq) hF hr
  clear hr
  rw [stepG_seq]
  simp only [goes_go]
  refine ⟨hdq_idle _ _, ?_⟩
  refine Goes.step rfl (fun w hr => ?_)
  replace hF := (wb_rl fx hq) hF hr
  clear hr
  rw [stepG_region]
  simp only [goes_go, List.size_toArray, List.length_cons, List.length_nil, Nat.reduceAdd, Nat.zero_add, List.range, List.range.loop]
  refine ⟨hdq_idle _ _, ?_⟩
  refine Goes.step rfl (fun w hr => ?_)
  replace hF := (wb_rl fx hq) hF hr
  clear hr
  refine goes_oper_k rfl rfl (by k_ne) (fun K hK => ?_)
  go_simp
  refine hK _ _ ⟨?_, ?_⟩
  · rw [listed_nil (by simp [go_sem])]; exact hdq_idle _ _
  clear hK K
  try walk_nrm
  refine Goes.step rfl (fun w hr => ?_)
  replace hF := (wb_rl fx hq) hF hr
  clear hr
  rw [stepG_region_end]
  simp only [goes_go]
  refine ⟨hdq_idle _ _, ?_⟩
  refine Goes.step rfl (fun w hr => ?_)
  replace hF := (wb_rl fx hq) hF hr
  clear hr
  rw [stepG_seq]
  simp only [goes_go]
  refine ⟨hdq_idle _ _, ?_⟩
  refine Goes.step rfl (fun w hr => ?_)
  replace hF := (wb_rl fx hq) hF hr
  clear hr
  rw [stepG_cond (t := true) (by first | rfl | (simp [Act.eval]; omega))]
  simp only [goes_go, if_true, if_false, Bool.false_eq_true, ↓reduceIte]
  refine ⟨hdq_idle _ _, ?_⟩
  refine Goes.step rfl (fun w hr => ?_)
  replace hF := (wb_rl fx hq) hF hr
  clear hr
  rw [stepG_skip]
  simp only [goes_go]
  refine ⟨hdq_idle _ _, ?_⟩
  refine Goes.step rfl (fun w hr => ?_)
  replace hF := (wb_rl fx hq) hF hr
  clear hr
  rw [stepG_seq]
  simp only [goes_go]
  refine ⟨hdq_idle _ _, ?_⟩
  refine Goes.step rfl (fun w hr => ?_)
  replace hF := (wb_rl fx hq) hF hr
  clear hr
  rw [stepG_block]
  simp only [goes_go]
  refine ⟨hdq_idle _ _, ?_⟩
  refine Goes.step rfl (fun w hr => ?_)
  replace hF := (wb_rl fx hq) hF hr
  clear hr
  rw [stepG_seq]
  simp only [goes_go]
  refine ⟨hdq_idle _ _, ?_⟩
  refine Goes.step rfl (fun w hr => ?_)
  replace hF := (wb_rl fx hq) hF hr
  clear hr
  rw [stepG_region]
  simp only [goes_go, List.size_toArray, List.length_cons, List.length_nil, Nat.reduceAdd, Nat.zero_add, List.range, List.range.loop]
  refine ⟨hdq_idle _ _, ?_⟩
  refine Goes.step rfl (fun w hr => ?_)
  replace hF := (wb_rl fx hq) hF hr
  clear hr
  refine goes_oper_k rfl rfl (by k_ne) (fun K hK => ?_)
  go_simp
  refine hK _ _ ⟨?_, ?_⟩
  · rw [listed_nil (by simp [go_sem, *])]; exact hdq_idle _ _
  clear hK K
  try walk_nrm
  refine Goes.step rfl (fun w hr => ?_)
  replace hF := (wb_rl fx hq) hF hr
  clear hr
  have hc := hcell w hF.1.task
  refine goes_oper_k rfl rfl (by k_ne) (fun K hK => ?_)
  go_simp
  refine hK _ _ ⟨?_, ?_⟩
  · refine hdq_read (fun e he => ?_)
    have hm := mem_listed he
    simp [go_sem, *] at hm
    exact ⟨_, hm, block_of_cell hc, hSh p o rfl _⟩
  clear hK K hc
  try walk_nrm
  refine Goes.step rfl (fun w hr => ?_)
  replace hF := (wb_rl fx hq) hF hr
  clear hr
  refine goes_oper_k rfl rfl (by k_ne) (fun K hK => ?_)
  go_simp
  refine hK _ _ ⟨?_, ?_⟩
  · rw [listed_nil (by simp [go_sem])]; exact hdq_idle _ _
  clear hK K
  try walk_nrm
  refine Goes.step rfl (fun w hr => ?_)
  replace hF := (wb_rl fx hq) hF hr
  clear hr
  rw [stepG_region_end]
  simp only [goes_go]
  refine ⟨hdq_idle _ _, ?_⟩
  refine Goes.step rfl (fun w hr => ?_)
  replace hF := (wb_rl fx hq) hF hr
  clear hr
  rw [stepG_region]
  simp only [goes_go, List.size_toArray, List.length_cons, List.length_nil, Nat.reduceAdd, Nat.zero_add, List.range, List.range.loop]
  refine ⟨hdq_idle _ _, ?_⟩
  refine Goes.step rfl (fun w hr => ?_)
  replace hF := (wb_rl fx hq) hF hr
  clear hr
  refine goes_oper_k rfl rfl (by k_ne) (fun K hK => ?_)
  go_simp
  refine hK _ _ ⟨?_, ?_⟩
  · rw [listed_nil (by simp [go_sem])]; exact hdq_idle _ _
  clear hK K
  try walk_nrm
  refine Goes.step rfl (fun w hr => ?_)
  replace hF := (wb_rl fx hq) hF hr
  clear hr
  refine goes_oper_k rfl rfl (by k_ne) (fun K hK => ?_)
  go_simp
  refine hK _ _ ⟨?_, ?_⟩
  · rw [listed_nil (by simp [go_sem])]; exact hdq_idle _ _
  clear hK K
  try walk_nrm
  refine Goes.step rfl (fun w hr => ?_)
  replace hF := (wb_rl fx hq) hF hr
  clear hr
  refine goes_callc rfl rfl (by k_ne) rfl rfl Try.func41 rfl rfl ⟨hdq_idle _ _, ?_⟩
  simp only [Try.f41]
  walk_nrm
  refine Goes.stop (fun w hr => ⟨⟨_, _, _, _, rfl⟩, wb_rl fx hq hF hr⟩)

set_option maxRecDepth 100000 in
/-- Behind a yield, to the loop's head. -/
theorem n_next {R : World → World → Prop} {X : Cx} {Stop : Goroutine → World → Prop} {m : Nat} (hT : ∀ a b c, R a b → R b c → R a c) (a : Option Addr) (n c : Nat) (hn : n < 9223372036854775807) (yf : Value) (j : Nat) (hj : j < n) (s : ByteArray) (x0 x1 x2 x3 : Value) (cs : List Frame) (w : World)
    (hF : ∀ y0 y1 y2 y3 y4 y5 y6 y7, Goes Try.prog false R (HDq X) Stop m (headN a n c yf (j + 1) y0 y1 y2 y3 y4 y5 y6 y7 cs) w) :
    Goes Try.prog false R (HDq X) Stop (m + 7) (G ((base 68).at ((actN a n c yf j s x0 x1 x2 x3).put ((opsN[2]?).bind (·.dst)) (.tuple #[])) (.inRegion opsN [] :: todoN)) cs) w := by
  have hRt : ∀ {w w' : World}, (∀ y0 y1 y2 y3 y4 y5 y6 y7, Goes Try.prog false R (HDq X) Stop m (headN a n c yf (j + 1) y0 y1 y2 y3 y4 y5 y6 y7 cs) w) → R w w' → ∀ y0 y1 y2 y3 y4 y5 y6 y7, Goes Try.prog false R (HDq X) Stop m (headN a n c yf (j + 1) y0 y1 y2 y3 y4 y5 y6 y7 cs) w' := fun h r y0 y1 y2 y3 y4 y5 y6 y7 => (h y0 y1 y2 y3 y4 y5 y6 y7).rely hT r
  have hwr : IntKind.i64.wrap ((j : Int) + 1) = ((j + 1 : Nat) : Int) := by rw [IntKind.wrap_i64]; omega
  unfold actN todoN
  simp only [opsN, rndN, bodyN, inner, rt, lf, opsOf, Try.f68, Option.getD_some]
  walk_nrm
  refine Goes.step rfl (fun w hr => ?_)
  replace hF := hRt hF hr
  clear hr
  rw [stepG_region_end]
  simp only [goes_go]
  refine ⟨hdq_idle _ _, ?_⟩
  refine Goes.step rfl (fun w hr => ?_)
  replace hF := hRt hF hr
  clear hr
  rw [stepG_inBlock]
  simp only [goes_go]
  refine ⟨hdq_idle _ _, ?_⟩
  refine Goes.step rfl (fun w hr => ?_)
  replace hF := hRt hF hr
  clear hr
  rw [stepG_region]
  simp only [goes_go, List.size_toArray, List.length_cons, List.length_nil, Nat.reduceAdd, Nat.zero_add, List.range, List.range.loop]
  refine ⟨hdq_idle _ _, ?_⟩
  refine Goes.step rfl (fun w hr => ?_)
  replace hF := hRt hF hr
  clear hr
  refine goes_oper_k rfl rfl (by k_ne) (fun K hK => ?_)
  go_simp
  refine hK _ _ ⟨?_, ?_⟩
  · rw [listed_nil (by simp [go_sem])]; exact hdq_idle _ _
  clear hK K
  try walk_nrm
  refine Goes.step rfl (fun w hr => ?_)
  replace hF := hRt hF hr
  clear hr
  refine goes_oper_k rfl rfl (by k_ne) (fun K hK => ?_)
  go_simp
  refine hK _ _ ⟨?_, ?_⟩
  · rw [listed_nil (by simp [go_sem])]; exact hdq_idle _ _
  clear hK K
  try walk_nrm
  refine Goes.step rfl (fun w hr => ?_)
  replace hF := hRt hF hr
  clear hr
  rw [stepG_region_end]
  simp only [goes_go]
  refine ⟨hdq_idle _ _, ?_⟩
  refine Goes.step rfl (fun w hr => ?_)
  replace hF := hRt hF hr
  clear hr
  rw [stepG_inLoop]
  simp only [goes_go]
  refine ⟨hdq_idle _ _, ?_⟩
  exact hF _ _ _ _ _ _ _ _
end

/-! ### NwF -/
section
set_option linter.unusedSimpArgs false
open Go Go.Conc Go.RowKit Go.ConcR.Gen Cw

section
variable {P : Program} {main : Bool} {b c : Frame} {a : Act} {k todo : List Item} {cs : List Frame} {w : World}
/-- The deferred call of a function value is entered. -/
theorem stepG_unwind_enterC {f : FuncId} {cap : Array Value} {ds : List Deferred} {fn : Func} {cd : Code} (hd : a.defers = { target := .fn (.func f) cap, args := #[] } :: ds) (hf : P.funcs[f]? = some fn) (hname : (fn.name == "runtime.NumGoroutine") = false) (hb : fn.body = some cd) :
    stepG P main (G { b.at a todo with mode := .returning } cs) w =
      .go (G ((baseD f).at { tmps := cap ++ Array.replicate (fn.ntmps - cap.size) undef, defers := [] } [.code cd]) ({ b.at ⟨a.tmps, ds⟩ todo with mode := .returning } :: cs)) w #[] := by
  have h1 : ¬ fn.name = "runtime.NumGoroutine" := by simpa using hname
  rw [← enter_atD cap hf hb]
  simp [G, stepG, unwind, callDeferred, Frame.at, hd, invoke, callFunc, hf, h1, hb, GStep.after, seen_none]
/-- 'recover' where nobody panics. -/
theorem stepG_recover {ops : Array Oper} {i : Nat} {rest : List Nat} {o : Oper} (ho : ops[i]? = some o) (hw : Region.wanted o (yielded ops a.tmps) = true) (hk : b.kind = .deferred)
    (hop : o.op = .call { callee := .builtin .recover, args := #[], argTypes := #[] }) (hc : c.mode = .returning) (hro : ∀ a k, (b.at a k).roundOf = none) :
    stepG P main (G (b.at a (.inRegion ops (i :: rest) :: k)) (c :: cs)) w = .go (G (b.at (a.put o.dst .nilIface) (.inRegion ops rest :: k)) (c :: cs)) w #[] := by
  have hr : (execOp a.eval o).run P w = .ok .recover w := by
    unfold execOp
    simp [hop, resolve, invoke, builtin]
  have he : (execOp a.eval o).events P w #[] = #[] := by
    unfold execOp
    simp [hop, resolve, invoke, builtin]
  have hfin : (b.at a (.inRegion ops (i :: rest) :: k)).finish .nilIface = b.at (a.put o.dst .nilIface) (.inRegion ops rest :: k) := by rw [Frame.finish_at, ho]; rfl
  have hro' := hro a (.inRegion ops (i :: rest) :: k)
  rw [stepG_oper ho hw, ← hfin]
  simp only [Frame.at] at hro' ⊢
  simp [stepG.apply, hr, he, G, hk, GStep.after, seen_none, hro', tryRecover, hc]
end

noncomputable def bodyX : Code := Try.f40.body.getD .skip
noncomputable def opsR : Array Oper := opsOf (rt (rt (rt bodyR)))
/-- run's frame, while its task runs. -/
def actR (ev bi bs cr b1 b2 : Nat) (tv xv x14 : Value) : Act :=
  ⟨#[pb bs, tv, recF ev bi, pb b1, undef, pb b2, .func (.func 40) #[] #[pb b1], pb bs, pb bs, pb bs, .chan (some cr), xv, tv, yldF b1 b2, x14], [dF b1]⟩
noncomputable def frR (ev bi bs cr b1 b2 : Nat) (tv xv : Value) : Frame := (base 21).at (actR ev bi bs cr b1 b2 tv xv undef) [.inRegion opsR [2]]
/-- .. and behind it. -/
noncomputable def frRb (ev bi bs cr b1 b2 : Nat) (tv xv : Value) : Frame := { (base 21).at ⟨(actR ev bi bs cr b1 b2 tv xv (.tuple #[])).tmps, []⟩ [] with mode := .returning }

theorem invoke_notes (x y : Value) (w : World) : (invoke (.fn (.method "Run") #[]) #[.iface 44 x, y]).run Try.prog w = .ok (.enter 68 #[x, y]) w := by kernel_rfl
theorem invoke_notesE (x y : Value) (w : World) (es : Array Event) : (invoke (.fn (.method "Run") #[]) #[.iface 44 x, y]).events Try.prog w es = es := by kernel_rfl
theorem goes_notes {main : Bool} {b : Frame} {a : Act} {k : List Item} {cs : List Frame} {w : World} {ops : Array Oper} {i : Nat} {rest : List Nat} {o : Oper} {K : Goroutine → World → Array Event → Prop} {r y : Operand} {ats : Array TypeId} {x : Value} (ho : ops[i]? = some o) (hw : Region.wanted o (yielded ops a.tmps) = true) (hk : b.kind ≠ .early)
    (hop : o.op = .call { callee := .invoke r "Run", args := #[y], argTypes := ats }) (hr : a.eval r = .iface 44 x) (h : K (G ((base 68).at ⟨#[x, a.eval y, undef, undef, undef, undef, undef, undef, undef, undef, undef, undef, undef, undef, undef, undef], []⟩ [.code bodyN]) (b.at a (.inRegion ops (i :: rest) :: k) :: cs)) w #[]) :
    (stepG Try.prog main (G (b.at a (.inRegion ops (i :: rest) :: k)) cs) w).goes K := by
  have hrun : (execOp a.eval o).run Try.prog w = .ok (.enter 68 #[x, a.eval y]) w := by
    unfold execOp
    simp [hop, resolve, hr, invoke_notes]
  have hev : (execOp a.eval o).events Try.prog w #[] = #[] := by
    unfold execOp
    simp [hop, resolve, hr, invoke_notesE]
  rw [stepG_enter ho hw hk hrun, enter_at (c := bodyN) _ Try.func68 rfl, listed_nil hev]
  exact h

set_option maxRecDepth 100000 in
/-- Served for the first time, the worker enters its task. -/
theorem n_begin {R : World → World → Prop} {X : Cx} {Stop : Goroutine → World → Prop} {m : Nat} (hT : ∀ a b c, R a b → R b c → R a c) (wg bw bt ev bi bs cr b1 b2 : Nat) (a : Option Addr) (n c : Nat) (xv : Value) (w : World)
    (hF : ∀ y0 y1 y2 y3 y4 y5 y6 y7, Goes Try.prog false R (HDq X) Stop m (headN a n c (yldF b1 b2) 0 y0 y1 y2 y3 y4 y5 y6 y7 [frR ev bi bs cr b1 b2 (.iface 44 (.slice a n c)) xv, fr3 wg bw bt ev bi bs (.iface 44 (.slice a n c)), bot]) w) :
    Goes Try.prog false R (HDq X) Stop (m + 13) (Go.Conc.served (at1 wg bw bt ev bi bs cr b1 b2 (.iface 44 (.slice a n c))) xv) w := by
  have hRt : ∀ {w w' : World}, (∀ y0 y1 y2 y3 y4 y5 y6 y7, Goes Try.prog false R (HDq X) Stop m (headN a n c (yldF b1 b2) 0 y0 y1 y2 y3 y4 y5 y6 y7 [frR ev bi bs cr b1 b2 (.iface 44 (.slice a n c)) xv, fr3 wg bw bt ev bi bs (.iface 44 (.slice a n c)), bot]) w) → R w w' →
    ∀ y0 y1 y2 y3 y4 y5 y6 y7, Goes Try.prog false R (HDq X) Stop m (headN a n c (yldF b1 b2) 0 y0 y1 y2 y3 y4 y5 y6 y7 [frR ev bi bs cr b1 b2 (.iface 44 (.slice a n c)) xv, fr3 wg bw bt ev bi bs (.iface 44 (.slice a n c)), bot]) w' := fun h r y0 y1 y2 y3 y4 y5 y6 y7 => (h y0 y1 y2 y3 y4 y5 y6 y7).rely hT r
  unfold at1
  rw [served_fr, Frame.finish_at]
  simp only [bodyR, rt, lf, opsOf, Try.f21, Option.getD_some]
  walk_nrm
  refine Goes.step rfl (fun w hr => ?_)
  replace hF := hRt hF hr
  clear hr
  rw [stepG_region_end]
  simp only [goes_go]
  refine ⟨hdq_idle _ _, ?_⟩
  refine Goes.step rfl (fun w hr => ?_)
  replace hF := hRt hF hr
  clear hr
  rw [stepG_region]
  simp only [goes_go, List.size_toArray, List.length_cons, List.length_nil, Nat.reduceAdd, Nat.zero_add, List.range, List.range.loop]
  refine ⟨hdq_idle _ _, ?_⟩
  refine Goes.step rfl (fun w hr => ?_)
  replace hF := hRt hF hr
  clear hr
  refine goes_oper_k rfl rfl (by k_ne) (fun K hK => ?_)
  go_simp
  refine hK _ _ ⟨?_, ?_⟩
  · rw [listed_nil (by simp [go_sem])]; exact hdq_idle _ _
  clear hK K
  try walk_nrm
  refine Goes.step rfl (fun w hr => ?_)
  replace hF := hRt hF hr
  clear hr
  refine goes_oper_k rfl rfl (by k_ne) (fun K hK => ?_)
  go_simp
  refine hK _ _ ⟨?_, ?_⟩
  · rw [listed_nil (by simp [go_sem])]; exact hdq_idle _ _
  clear hK K
  try walk_nrm
  refine Goes.step rfl (fun w hr => ?_)
  replace hF := hRt hF hr
  clear hr
  refine goes_notes rfl rfl (by k_ne) rfl rfl ⟨hdq_idle _ _, ?_⟩
  walk_nrm
  simp only [bodyN, Try.f68, Option.getD_some]
  refine Goes.step rfl (fun w hr => ?_)
  replace hF := hRt hF hr
  clear hr
  rw [stepG_seq]
  simp only [goes_go]
  refine ⟨hdq_idle _ _, ?_⟩
  refine Goes.step rfl (fun w hr => ?_)
  replace hF := hRt hF hr
  clear hr
  rw [stepG_region]
  simp only [goes_go, List.size_toArray, List.length_cons, List.length_nil, Nat.reduceAdd, Nat.zero_add, List.range, List.range.loop]
  refine ⟨hdq_idle _ _, ?_⟩
  refine Goes.step rfl (fun w hr => ?_)
  replace hF := hRt hF hr
  clear hr
  refine goes_oper_k rfl rfl (by k_ne) (fun K hK => ?_)
  go_simp
  refine hK _ _ ⟨?_, ?_⟩
  · rw [listed_nil (by simp [go_sem])]; exact hdq_idle _ _
  clear hK K
  try walk_nrm
  refine Goes.step rfl (fun w hr => ?_)
  replace hF := hRt hF hr
  clear hr
  refine goes_oper_k rfl rfl (by k_ne) (fun K hK => ?_)
  go_simp
  refine hK _ _ ⟨?_, ?_⟩
  · rw [listed_nil (by simp [go_sem])]; exact hdq_idle _ _
  clear hK K
  try walk_nrm
  refine Goes.step rfl (fun w hr => ?_)
  replace hF := hRt hF hr
  clear hr
  refine goes_oper_k rfl rfl (by k_ne) (fun K hK => ?_)
  go_simp
  refine hK _ _ ⟨?_, ?_⟩
  · rw [listed_nil (by simp [go_sem])]; exact hdq_idle _ _
  clear hK K
  try walk_nrm
  refine Goes.step rfl (fun w hr => ?_)
  replace hF := hRt hF hr
  clear hr
  rw [stepG_region_end]
  simp only [goes_go]
  refine ⟨hdq_idle _ _, ?_⟩
  refine Goes.step rfl (fun w hr => ?_)
  replace hF := hRt hF hr
  clear hr
  rw [stepG_block]
  simp only [goes_go]
  refine ⟨hdq_idle _ _, ?_⟩
  refine Goes.step rfl (fun w hr => ?_)
  replace hF := hRt hF hr
  clear hr
  rw [stepG_loop]
  simp only [goes_go]
  refine ⟨hdq_idle _ _, ?_⟩
  exact hF _ _ _ _ _ _ _ _

set_option maxRecDepth 100000 in
/-- The notes are all said: the task returns. -/
theorem n_end {R : World → World → Prop} {X : Cx} {Stop : Goroutine → World → Prop} {m : Nat} (hT : ∀ a b c, R a b → R b c → R a c) (ev bi bs cr b1 b2 : Nat) (tv xv : Value) (a : Option Addr) (n c : Nat) (yf : Value) (y0 y1 y2 y3 y4 y5 y6 y7 : Value) (cs : List Frame) (w : World)
    (hF : Goes Try.prog false R (HDq X) Stop m (G ((base 21).at (actR ev bi bs cr b1 b2 tv xv (.tuple #[])) [.inRegion opsR []]) cs) w) :
    Goes Try.prog false R (HDq X) Stop (m + 9) (headN a n c yf n y0 y1 y2 y3 y4 y5 y6 y7 (frR ev bi bs cr b1 b2 tv xv :: cs)) w := by
  have hRt : ∀ {w w' : World}, Goes Try.prog false R (HDq X) Stop m (G ((base 21).at (actR ev bi bs cr b1 b2 tv xv (.tuple #[])) [.inRegion opsR []]) cs) w → R w w' → Goes Try.prog false R (HDq X) Stop m (G ((base 21).at (actR ev bi bs cr b1 b2 tv xv (.tuple #[])) [.inRegion opsR []]) cs) w' := fun h r => h.rely hT r
  unfold headN
  simp only [rndN, bodyN, inner, rt, Try.f68, Option.getD_some]
  refine Goes.step rfl (fun w hr => ?_)
  replace hF := hRt hF hr
  clear hr
  rw [stepG_seq]
  simp only [goes_go]
  refine ⟨hdq_idle _ _, ?_⟩
  refine Goes.step rfl (fun w hr => ?_)
  replace hF := hRt hF hr
  clear hr
  rw [stepG_region]
  simp only [goes_go, List.size_toArray, List.length_cons, List.length_nil, Nat.reduceAdd, Nat.zero_add, List.range, List.range.loop]
  refine ⟨hdq_idle _ _, ?_⟩
  refine Goes.step rfl (fun w hr => ?_)
  replace hF := hRt hF hr
  clear hr
  refine goes_oper_k rfl rfl (by k_ne) (fun K hK => ?_)
  go_simp
  refine hK _ _ ⟨?_, ?_⟩
  · rw [listed_nil (by simp [go_sem])]; exact hdq_idle _ _
  clear hK K
  try walk_nrm
  refine Goes.step rfl (fun w hr => ?_)
  replace hF := hRt hF hr
  clear hr
  rw [stepG_region_end]
  simp only [goes_go]
  refine ⟨hdq_idle _ _, ?_⟩
  refine Goes.step rfl (fun w hr => ?_)
  replace hF := hRt hF hr
  clear hr
  rw [stepG_seq]
  simp only [goes_go]
  refine ⟨hdq_idle _ _, ?_⟩
  refine Goes.step rfl (fun w hr => ?_)
  replace hF := hRt hF hr
  clear hr
  rw [stepG_cond (t := false) (by first | rfl | (simp [Act.eval]; omega))]
  simp only [goes_go, if_true, if_false, Bool.false_eq_true, ↓reduceIte]
  refine ⟨hdq_idle _ _, ?_⟩
  refine Goes.step rfl (fun w hr => ?_)
  replace hF := hRt hF hr
  clear hr
  refine goes_exit rfl ?_
  refine ⟨hdq_idle _ _, ?_⟩
  refine Goes.step rfl (fun w hr => ?_)
  replace hF := hRt hF hr
  clear hr
  rw [stepG_end]
  simp only [goes_go]
  refine ⟨hdq_idle _ _, ?_⟩
  refine Goes.step rfl (fun w hr => ?_)
  replace hF := hRt hF hr
  clear hr
  unfold frR actR
  simp only [opsR, bodyR, rt, opsOf, Try.f21, Option.getD_some] at hF ⊢
  refine goes_leave0 rfl rfl Try.func68 rfl ⟨hdq_idle _ _, ?_⟩
  walk_nrm
  exact hF

/-- At the send of the end. -/
noncomputable def atX (ev bi bs cr cp b1 b2 : Nat) (tv xv : Value) (cs : List Frame) : Goroutine :=
  G ((baseD 40).at ⟨#[pb b1, .nilIface, pb bs, pb bs, .pointer (some ⟨bs, 1, none⟩), .chan (some cp)], []⟩ [.inRegion (opsOf (rt bodyX)) [4]]) (frRb ev bi bs cr b1 b2 tv xv :: cs)

set_option maxRecDepth 100000 in
theorem x_walk {X : Cx} {V : Nat → Prop} {B : Nat} {Tk Q : World → Prop} {bw bt ev bi bs cr cp b1 b2 : Nat} {tv : Value} {i : Int} {L : Addr → Value → Prop} (hsub : ∀ a v, Lean2 bw bt ev bi bs cr cp b1 b2 tv i a v → L a v) (fx : Fx X V B L ev Tk) (hq : ∀ w w', Ext V w w' → Q w → Q w') (xv : Value) (cs : List Frame) (w : World)
    (hF : WB X B L Tk w ∧ Q w) :
    Goes Try.prog false (Ext V) (HDq X) (fun g w => g = atX ev bi bs cr cp b1 b2 tv xv cs ∧ WB X B L Tk w ∧ Q w) 20 (G ((base 21).at (actR ev bi bs cr b1 b2 tv xv (.tuple #[])) [.inRegion opsR []]) cs) w := by
  have hb1 : L ⟨b1, 0, none⟩ (pb bs) := hsub _ _ (.inl (.inr ⟨rfl, rfl⟩))
  have hs1 : L ⟨bs, 1, none⟩ (.chan (some cp)) := hsub _ _ (.inl (.inl (.inr (.inr (.inr (.inr ⟨rfl, rfl⟩))))))
  refine Goes.step rfl (fun w hr => ?_)
  replace hF := (wb_rl fx hq) hF hr
  clear hr
  rw [stepG_region_end]
  simp only [goes_go]
  refine ⟨hdq_idle _ _, ?_⟩
  refine Goes.step rfl (fun w hr => ?_)
  replace hF := (wb_rl fx hq) hF hr
  clear hr
  rw [stepG_end]
  simp only [goes_go]
  refine ⟨hdq_idle _ _, ?_⟩
  refine Goes.step rfl (fun w hr => ?_)
  replace hF := (wb_rl fx hq) hF hr
  clear hr
  rw [stepG_unwind_enterC rfl Try.func40 rfl rfl]
  simp only [goes_go]
  refine ⟨hdq_idle _ _, ?_⟩
  simp only [Try.f40]
  walk_nrm
  refine Goes.step rfl (fun w hr => ?_)
  replace hF := (wb_rl fx hq) hF hr
  clear hr
  rw [stepG_seq]
  simp only [goes_go]
  refine ⟨hdq_idle _ _, ?_⟩
  refine Goes.step rfl (fun w hr => ?_)
  replace hF := (wb_rl fx hq) hF hr
  clear hr
  rw [stepG_region]
  simp only [goes_go, List.size_toArray, List.length_cons, List.length_nil, Nat.reduceAdd, Nat.zero_add, List.range, List.range.loop]
  refine ⟨hdq_idle _ _, ?_⟩
  refine Goes.step rfl (fun w hr => ?_)
  replace hF := (wb_rl fx hq) hF hr
  clear hr
  rw [stepG_recover rfl rfl rfl rfl rfl (fun _ _ => rfl)]
  simp only [goes_go]
  refine ⟨hdq_idle _ _, ?_⟩
  walk_nrm
  refine Goes.step rfl (fun w hr => ?_)
  replace hF := (wb_rl fx hq) hF hr
  clear hr
  rw [stepG_region_end]
  simp only [goes_go]
  refine ⟨hdq_idle _ _, ?_⟩
  refine Goes.step rfl (fun w hr => ?_)
  replace hF := (wb_rl fx hq) hF hr
  clear hr
  rw [stepG_region]
  simp only [goes_go, List.size_toArray, List.length_cons, List.length_nil, Nat.reduceAdd, Nat.zero_add, List.range, List.range.loop]
  refine ⟨hdq_idle _ _, ?_⟩
  refine Goes.step rfl (fun w hr => ?_)
  replace hF := (wb_rl fx hq) hF hr
  clear hr
  have hc := hF.1.kl _ _ hb1
  refine goes_oper_k rfl rfl (by k_ne) (fun K hK => ?_)
  go_simp
  refine hK _ _ ⟨?_, ?_⟩
  · refine hdq_read (fun e he => ?_)
    have hm := mem_listed he
    simp [go_sem, *] at hm
    exact ⟨_, hm, block_of_cell hc, (fx.nv _ _ hb1).2.1⟩
  clear hK K hc
  try walk_nrm
  refine Goes.step rfl (fun w hr => ?_)
  replace hF := (wb_rl fx hq) hF hr
  clear hr
  refine goes_oper_k rfl rfl (by k_ne) (fun K hK => ?_)
  go_simp
  refine hK _ _ ⟨?_, ?_⟩
  · rw [listed_nil (by simp [go_sem])]; exact hdq_idle _ _
  clear hK K
  try walk_nrm
  refine Goes.step rfl (fun w hr => ?_)
  replace hF := (wb_rl fx hq) hF hr
  clear hr
  refine goes_oper_k rfl rfl (by k_ne) (fun K hK => ?_)
  go_simp
  refine hK _ _ ⟨?_, ?_⟩
  · rw [listed_nil (by simp [go_sem])]; exact hdq_idle _ _
  clear hK K
  try walk_nrm
  refine Goes.step rfl (fun w hr => ?_)
  replace hF := (wb_rl fx hq) hF hr
  clear hr
  have hc := hF.1.kl _ _ hs1
  refine goes_oper_k rfl rfl (by k_ne) (fun K hK => ?_)
  go_simp
  refine hK _ _ ⟨?_, ?_⟩
  · refine hdq_read (fun e he => ?_)
    have hm := mem_listed he
    simp [go_sem, *] at hm
    exact ⟨_, hm, block_of_cell hc, (fx.nv _ _ hs1).2.1⟩
  clear hK K hc
  try walk_nrm
  refine Goes.stop (fun w hr => ⟨rfl, wb_rl fx hq hF hr⟩)

theorem atX_send (ev bi bs cr cp b1 b2 : Nat) (tv xv : Value) (cs : List Frame) (w : World) : stepG Try.prog false (atX ev bi bs cr cp b1 b2 tv xv cs) w = .comm (atX ev bi bs cr cp b1 b2 tv xv cs) #[scase cp (.bool true) (.tuple #[])] true .send w #[] := by
  unfold atX
  simp only [bodyX, rt, opsOf, Try.f40, Option.getD_some]
  refine (stepG_comm rfl rfl (by k_ne) (w' := w) (cases := #[scase cp (.bool true) (.tuple #[])]) (blocking := true) (shape := .send) ?_).trans ?_
  · simp [go_sem, execOp, scase, Act.eval]
  · rw [listed_nil (by simp [go_sem, execOp, Act.eval])]

/-- Run$3's frame on its way out, Done being under way. -/
noncomputable def fr3b (wg bw bt ev bi bs : Nat) (tv : Value) : Frame := { (baseD 19).at ⟨#[pb wg, pb bw, pb bt, pb ev, pb bi, pb bs, tv, recF ev bi, .tuple #[]], []⟩ [] with mode := .returning }
theorem quits3 (wg bw bt ev bi bs : Nat) (tv : Value) : QuitsD Try.prog 2 0 (G (fr3b wg bw bt ev bi bs tv) [bot]) := by
  unfold fr3b
  refine QuitsD.ctl (g' := G bot []) rfl (fun w => ?_) ?_
  · simp [G, stepG, unwind, doReturn, results, Frame.at, baseD, bot, Try.func19, Try.f19, seen, GStep.after, goexitEntry]
  refine QuitsD.ctl (g' := { G bot [] with status := .finished }) rfl (fun w => ?_) ⟨rfl, rfl⟩
  simp [G, stepG, unwind, bot, goexitEntry, Frame.catches]
  rfl

set_option maxRecDepth 100000 in
/-- Behind its last send a worker walks to its Done's release. -/
theorem x_back (wg bw bt ev bi bs cr cp b1 b2 C : Nat) (tv xv : Value) (w : World) (hK : Go.ConcN.WgLive link.tWg wg w ∧ ∃ v, w.cell? ⟨C, 0, none⟩ = some v) :
    Goes Try.prog false (RKeep link.tWg wg C) Cw.D0 (StR Try.prog link.tWg wg C) 30 (Go.Conc.served (atX ev bi bs cr cp b1 b2 tv xv [fr3 wg bw bt ev bi bs tv, bot]) undef) w := by
  unfold atX
  rw [served_fr, Frame.finish_at]
  simp only [bodyX, rt, opsOf, Try.f40, Option.getD_some]
  walk_nrm
  u_c stepG_region_end done_rl hK
  u_c stepG_end done_rl hK
  u_c (stepG_leave_deferred rfl rfl Try.func40 (results_none rfl _ _ _) (events_results_none rfl _ _) rfl) done_rl hK
  unfold frRb actR
  refine Goes.step rfl (fun w h => ?_)
  replace hK := done_rl hK h
  clear h
  unfold fr3
  refine goes_leave0 rfl rfl Try.func21 rfl ⟨by u_nil, ?_⟩
  simp only [body3, rt, opsOf, Try.f19, Option.getD_some]
  walk_nrm
  u_c stepG_region_end done_rl hK
  u_c stepG_end done_rl hK
  u_c (stepG_unwind_enter rfl Try.func20 rfl rfl) done_rl hK
  exact Goes.mono (n := 20) (done_walk wgLib rfl (quits3 wg bw bt ev bi bs tv) _ hK) (by omega)
end
end Go.Proofs.Ytggfcdhkgldbfaa
