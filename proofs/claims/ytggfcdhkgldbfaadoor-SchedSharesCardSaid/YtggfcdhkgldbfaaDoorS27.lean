/-
  PARTS of a claim, merged by segs.py: CwAd1, CwAd2.
-/
import Derived.Test.YtggfcdhkgldbfaaDoorS26
import Derived.Test.YtggfcdhkgldbfaaDoorS12
namespace Go.Proofs.YtggfcdhkgldbfaaDoor
set_option linter.unusedSimpArgs false
set_option linter.unusedVariables false

/-! ### CwAd1 -/
section
set_option linter.unusedSimpArgs false
open Go Go.Conc Go.RowKit Go.ConcR.Gen Cw

noncomputable def bodyD : Code := Tryd.f77.body.getD .skip
noncomputable def rndD : Code := inner (inner (rt (rt bodyD)))
noncomputable def opsD4 : Array Oper := opsOf (lf (rt (inner (lf (rt (rt rndD))))))
abbrev fAd (T : Array Value) (k : List Item) : Frame := (base 77).at ⟨T, []⟩ k
noncomputable def todoD : List Item := [.code (rt (rt (inner (lf (rt (rt rndD)))))), .inBlock 1, .code (rt (rt (rt rndD))), .inLoop rndD, .inBlock 0]
noncomputable def headD (T : Array Value) (cs : List Frame) : Goroutine := G (fAd T [.code rndD, .inLoop rndD, .inBlock 0]) cs
theorem arrG23 (T : Array Value) (h : T.size = 23) : T = #[gv T 0, gv T 1, gv T 2, gv T 3, gv T 4, gv T 5, gv T 6, gv T 7, gv T 8, gv T 9, gv T 10, gv T 11, gv T 12, gv T 13, gv T 14, gv T 15, gv T 16, gv T 17, gv T 18, gv T 19, gv T 20, gv T 21, gv T 22] := (arr_eq T 23 h).trans (by rfl)
/-- What an adder leans on besides: its own copy. -/
def exD (ab sb tm : Nat) : Addr → Value → Prop := fun a v => (a = ⟨ab, 0, none⟩ ∧ v = pb sb) ∨ (a = ⟨ab, 1, none⟩ ∧ v = .int .i64 tm)
theorem Fx.more {X : Cx} {V : Nat → Prop} {B : Nat} {L L' : Addr → Value → Prop} {ev : Nat} {Tk : World → Prop} (fx : Fx X V B L ev Tk) (h : ∀ a v, L' a v → L a v ∨ B ≤ a.block) : Fx X V B L' ev Tk :=
  ⟨fx.floor, fx.bx, fx.ok, fx.evlt, fun a v hav => (h a v hav).elim (fx.nv a v) fun hb => ⟨(fx.floor.ok hb).nv, fun hs => (fx.floor.ok hb).sh _ rfl hs, by have := fx.evlt; omega⟩, fx.keepR, fx.keepO⟩
theorem sizeAd : (Tryd.prog.info? 28).map (·.size) = some 2 := by kernel_rfl
section
variable {X : Cx} {V : Nat → Prop} {B : Nat} {L : Addr → Value → Prop} {ev : Nat} {Tk Q : World → Prop}
set_option maxRecDepth 100000 in
set_option maxHeartbeats 2000000 in
theorem d_entry (fx : Fx X V B L ev Tk) (hq : ∀ w w', Ext V w w' → Q w → Q w') (hQa : ∀ w o, Q w → Q (w.alloc o)) {sb tm : Nat} {yf : Value} (cs : List Frame) (w : World) (hF : WB B L Tk w ∧ Q w) :
    Goes Tryd.prog false (Ext V) (HDq X) (fun g w => ∃ ab T, (T.size = 23 ∧ T[1]? = some yf ∧ T[2]? = some (pb ab) ∧ T[6]? = some (.int .i64 tm) ∧ T[7]? = some (.int .i64 0)) ∧ B ≤ ab ∧ g = headD T cs ∧ (WB B L Tk w ∧ Q w) ∧ w.heap[ab]? = some (Obj.cells #[pb sb, .int .i64 tm] 28 (0, 0))) 30
      (G (fAd #[.agg #[pb sb, .int .i64 tm], yf, undef, undef, undef, undef, undef, undef, undef, undef, undef, undef, undef, undef, undef, undef, undef, undef, undef, undef, undef, undef, undef] [.code bodyD]) cs) w := by
  simp only [fAd, headD, todoD, opsD4, rndD, bodyD, inner, rt, lf, opsOf, Tryd.f77, Option.getD_some]
  refine Goes.step rfl (fun w hr => ?_)
  replace hF := (wb_rl fx hq) hF hr
  clear hr
  rw [stepG_seq]
  simp only [goes_go]
  refine ⟨hdq_idle _ _, ?_⟩
  refine Goes.step rfl (fun w hr => ?_)
  replace hF := (wb_rl fx hq) hF hr
  clear hr
  rw [stepG_region]
  simp only [goes_go, List.size_toArray, List.length_cons, List.length_nil, Nat.reduceAdd, Nat.zero_add, List.range, List.range.loop]
  refine ⟨hdq_idle _ _, ?_⟩
  refine Goes.step rfl (fun w hr => ?_)
  replace hF := (wb_rl fx hq) hF hr
  clear hr
  refine goes_oper_k rfl rfl (by k_ne) (fun K hK => ?_)
  go_simp
  refine hK _ _ ⟨?_, ?_⟩
  · rw [listed_nil (by simp [go_sem, *])]
    exact hdq_alloc (fun a ha => Nat.lt_of_lt_of_le (fx.floor.st a ha) hF.1.size) (fun c hc => Nat.lt_of_lt_of_le (fx.floor.ch c hc) hF.1.size) (fun o => Nat.lt_of_lt_of_le (fx.floor.wg o) hF.1.size) (by simp)
  clear hK K
  try walk_nrm
  have hn := hF.1.size
  replace hF : WB B L Tk (w.alloc (Obj.cells #[pb sb, .int .i64 tm] 28 (0, 0))) ∧ (Q (w.alloc (Obj.cells #[pb sb, .int .i64 tm] 28 (0, 0))) ∧ (w.alloc (Obj.cells #[pb sb, .int .i64 tm] 28 (0, 0))).heap[w.heap.size]? = some (Obj.cells #[pb sb, .int .i64 tm] 28 (0, 0))) :=
    ⟨hF.1.only fx (onlyEv_alloc X ev w _), hQa _ _ hF.2, heap_alloc_new w _⟩
  generalize w.heap.size = ab at *
  generalize w.alloc _ = w at *
  have hq0 := hq
  clear hq
  have hq : ∀ w w', Ext V w w' → (Q w ∧ w.heap[ab]? = some (Obj.cells #[pb sb, .int .i64 tm] 28 (0, 0))) → (Q w' ∧ w'.heap[ab]? = some (Obj.cells #[pb sb, .int .i64 tm] 28 (0, 0))) := fun w w' r h => ⟨hq0 w w' r h.1, (r.same ab (Array.getElem?_eq_some_iff.1 h.2).1 (fx.floor.ok hn).nv).trans h.2⟩
  refine Goes.step rfl (fun w hr => ?_)
  replace hF := (wb_rl fx hq) hF hr
  clear hr
  rw [stepG_region_end]
  simp only [goes_go]
  refine ⟨hdq_idle _ _, ?_⟩
  refine Goes.step rfl (fun w hr => ?_)
  replace hF := (wb_rl fx hq) hF hr
  clear hr
  rw [stepG_seq]
  simp only [goes_go]
  refine ⟨hdq_idle _ _, ?_⟩
  refine Goes.step rfl (fun w hr => ?_)
  replace hF := (wb_rl fx hq) hF hr
  clear hr
  rw [stepG_region]
  simp only [goes_go, List.size_toArray, List.length_cons, List.length_nil, Nat.reduceAdd, Nat.zero_add, List.range, List.range.loop]
  refine ⟨hdq_idle _ _, ?_⟩
  refine Goes.step rfl (fun w hr => ?_)
  replace hF := (wb_rl fx hq) hF hr
  clear hr
  refine goes_oper_k rfl rfl (by k_ne) (fun K hK => ?_)
  go_simp
  refine hK _ _ ⟨?_, ?_⟩
  · rw [listed_nil (by simp [go_sem])]; exact hdq_idle _ _
  clear hK K
  try walk_nrm
  refine Goes.step rfl (fun w hr => ?_)
  replace hF := (wb_rl fx hq) hF hr
  clear hr
  have hc := (show w.cell? ⟨ab, 1, none⟩ = some (.int .i64 tm) by simp [World.cell?, hF.2.2])
  refine goes_oper_k rfl rfl (by k_ne) (fun K hK => ?_)
  go_simp
  refine hK _ _ ⟨?_, ?_⟩
  · refine hdq_read (fun e he => ?_)
    have hm := mem_listed he
    simp [go_sem, *] at hm
    exact ⟨_, hm, block_of_cell hc, (fun hs => (fx.floor.ok hn).sh _ rfl hs)⟩
  clear hK K hc
  try walk_nrm
  refine Goes.step rfl (fun w hr => ?_)
  replace hF := (wb_rl fx hq) hF hr
  clear hr
  refine goes_oper_k rfl rfl (by k_ne) (fun K hK => ?_)
  go_simp
  refine hK _ _ ⟨?_, ?_⟩
  · rw [listed_nil (by simp [go_sem])]; exact hdq_idle _ _
  clear hK K
  try walk_nrm
  refine Goes.step rfl (fun w hr => ?_)
  replace hF := (wb_rl fx hq) hF hr
  clear hr
  rw [stepG_region_end]
  simp only [goes_go]
  refine ⟨hdq_idle _ _, ?_⟩
  refine Goes.step rfl (fun w hr => ?_)
  replace hF := (wb_rl fx hq) hF hr
  clear hr
  rw [stepG_block]
  simp only [goes_go]
  refine ⟨hdq_idle _ _, ?_⟩
  refine Goes.step rfl (fun w hr => ?_)
  replace hF := (wb_rl fx hq) hF hr
  clear hr
  rw [stepG_loop]
  simp only [goes_go]
  refine ⟨hdq_idle _ _, ?_⟩
  refine Goes.stop (fun w hr => ⟨ab, _, ⟨?_, ?_, ?_, ?_, ?_⟩, hn, rfl, ⟨(wb_rl fx hq0 ⟨hF.1, hF.2.1⟩ hr).1, hq0 _ _ hr hF.2.1⟩, (hq _ _ hr hF.2).2⟩) <;> rfl
set_option maxRecDepth 100000 in
set_option maxHeartbeats 2000000 in
theorem d_yield (fx : Fx X V B L ev Tk) (hq : ∀ w w', Ext V w w' → Q w → Q w') {sb tm ab j m b1 b2 kc : Nat} {s : ByteArray} (hL : L ⟨ab, 0, none⟩ (pb sb)) (hTm : ∀ w, Tk w → w.cell? ⟨sb, 0, none⟩ = some (.int .i64 m)) (hsb : ¬ X.Sh (.cell ⟨sb, 0, none⟩)) (hj : j < tm)
    (hk : ∀ (main : Bool) (R : World → World → Prop) (D : World → World → Array Event → Prop) (_ : Terms R D) (Q : World → Prop) (_ : ∀ w w', Q w → R w w' → Q w') (w : World), Q w → CallsC Tryd.prog main R D 8 #[.int .i64 m] kc w (fun r w' => r = .string s ∧ Q w'))
    (cs : List Frame) (w : World) (hF : WB B L Tk w ∧ Q w) (T : Array Value) (hT : T.size = 23) (h1 : T[1]? = some (yldF b1 b2)) (h2 : T[2]? = some (pb ab)) (h6 : T[6]? = some (.int .i64 tm)) (h7 : T[7]? = some (.int .i64 j)) :
    Goes Tryd.prog false (Ext V) (HDq X) (fun g w => (∃ T', (T'.size = 23 ∧ T'[1]? = some (yldF b1 b2) ∧ T'[2]? = some (pb ab) ∧ T'[4]? = some (.int .i64 m) ∧ T'[6]? = some (.int .i64 tm) ∧ T'[7]? = some (.int .i64 j)) ∧ g = G ((base 39).at ⟨#[.string s, pb b2, pb b1, undef, undef, undef, undef, undef, undef, undef, undef, undef, undef, undef, undef, undef], []⟩ [.code bodyY])
      (fAd T' (.inRegion opsD4 [3] :: todoD) :: cs)) ∧ WB B L Tk w ∧ Q w) (10 + kc + 3 + 40) (headD T cs) w := by
  have hji : (j : Int) < (tm : Int) := by omega
  unfold headD fAd
  rw [arrG23 T hT]
  simp only [gv_of h1, gv_of h2, gv_of h6, gv_of h7]
  simp only [fAd, headD, todoD, opsD4, rndD, bodyD, inner, rt, lf, opsOf, Tryd.f77, Option.getD_some]
  refine Goes.step rfl (fun w hr => ?_)
  replace hF := (wb_rl fx hq) hF hr
  clear hr
  rw [stepG_seq]
  simp only [goes_go]
  refine ⟨hdq_idle _ _, ?_⟩
  refine Goes.step rfl (fun w hr => ?_)
  replace hF := (wb_rl fx hq) hF hr
  clear hr
  rw [stepG_region]
  simp only [goes_go, List.size_toArray, List.length_cons, List.length_nil, Nat.reduceAdd, Nat.zero_add, List.range, List.range.loop]
  refine ⟨hdq_idle _ _, ?_⟩
  refine Goes.step rfl (fun w hr => ?_)
  replace hF := (wb_rl fx hq) hF hr
  clear hr
  refine goes_oper_k rfl rfl (by k_ne) (fun K hK => ?_)
  go_simp
  refine hK _ _ ⟨?_, ?_⟩
  · rw [listed_nil (by simp [go_sem, *])]; exact hdq_idle _ _
  clear hK K
  try walk_nrm
  refine Goes.step rfl (fun w hr => ?_)
  replace hF := (wb_rl fx hq) hF hr
  clear hr
  rw [stepG_region_end]
  simp only [goes_go]
  refine ⟨hdq_idle _ _, ?_⟩
  refine Goes.step rfl (fun w hr => ?_)
  replace hF := (wb_rl fx hq) hF hr
  clear hr
  rw [stepG_seq]
  simp only [goes_go]
  refine ⟨hdq_idle _ _, ?_⟩
  refine Goes.step rfl (fun w hr => ?_)
  replace hF := (wb_rl fx hq) hF hr
  clear hr
  rw [stepG_cond (t := true) (by first | rfl | (simp [Act.eval]; omega))]
  simp only [goes_go, if_true, if_false, Bool.false_eq_true, ↓reduceIte]
  refine ⟨hdq_idle _ _, ?_⟩
  refine Goes.step rfl (fun w hr => ?_)
  replace hF := (wb_rl fx hq) hF hr
  clear hr
  rw [stepG_skip]
  simp only [goes_go]
  refine ⟨hdq_idle _ _, ?_⟩
  refine Goes.step rfl (fun w hr => ?_)
  replace hF := (wb_rl fx hq) hF hr
  clear hr
  rw [stepG_seq]
  simp only [goes_go]
  refine ⟨hdq_idle _ _, ?_⟩
  refine Goes.step rfl (fun w hr => ?_)
  replace hF := (wb_rl fx hq) hF hr
  clear hr
  rw [stepG_block]
  simp only [goes_go]
  refine ⟨hdq_idle _ _, ?_⟩
  refine Goes.step rfl (fun w hr => ?_)
  replace hF := (wb_rl fx hq) hF hr
  clear hr
  rw [stepG_seq]
  simp only [goes_go]
  refine ⟨hdq_idle _ _, ?_⟩
  refine Goes.step rfl (fun w hr => ?_)
  replace hF := (wb_rl fx hq) hF hr
  clear hr
  rw [stepG_region]
  simp only [goes_go, List.size_toArray, List.length_cons, List.length_nil, Nat.reduceAdd, Nat.zero_add, List.range, List.range.loop]
  refine ⟨hdq_idle _ _, ?_⟩
  refine Goes.step rfl (fun w hr => ?_)
  replace hF := (wb_rl fx hq) hF hr
  clear hr
  refine goes_oper_k rfl rfl (by k_ne) (fun K hK => ?_)
  go_simp
  refine hK _ _ ⟨?_, ?_⟩
  · rw [listed_nil (by simp [go_sem])]; exact hdq_idle _ _
  clear hK K
  try walk_nrm
  refine Goes.step rfl (fun w hr => ?_)
  replace hF := (wb_rl fx hq) hF hr
  clear hr
  have hc := hF.1.kl _ _ hL
  refine goes_oper_k rfl rfl (by k_ne) (fun K hK => ?_)
  go_simp
  refine hK _ _ ⟨?_, ?_⟩
  · refine hdq_read (fun e he => ?_)
    have hm := mem_listed he
    simp [go_sem, *] at hm
    exact ⟨_, hm, block_of_cell hc, (fx.nv _ _ hL).2.1⟩
  clear hK K hc
  try walk_nrm
  refine Goes.step rfl (fun w hr => ?_)
  replace hF := (wb_rl fx hq) hF hr
  clear hr
  refine goes_oper_k rfl rfl (by k_ne) (fun K hK => ?_)
  go_simp
  refine hK _ _ ⟨?_, ?_⟩
  · rw [listed_nil (by simp [go_sem])]; exact hdq_idle _ _
  clear hK K
  try walk_nrm
  refine Goes.step rfl (fun w hr => ?_)
  replace hF := (wb_rl fx hq) hF hr
  clear hr
  have hc := hTm w hF.1.task
  refine goes_oper_k rfl rfl (by k_ne) (fun K hK => ?_)
  go_simp
  refine hK _ _ ⟨?_, ?_⟩
  · refine hdq_read (fun e he => ?_)
    have hm := mem_listed he
    simp [go_sem, *] at hm
    exact ⟨_, hm, block_of_cell hc, hsb⟩
  clear hK K hc
  try walk_nrm
  refine Goes.step rfl (fun w hr => ?_)
  replace hF := (wb_rl fx hq) hF hr
  clear hr
  refine goes_oper_k rfl rfl (by k_ne) (fun K hK => ?_)
  go_simp
  refine hK _ _ ⟨?_, ?_⟩
  · rw [listed_nil (by simp [go_sem])]; exact hdq_idle _ _
  clear hK K
  try walk_nrm
  refine Goes.step rfl (fun w hr => ?_)
  replace hF := (wb_rl fx hq) hF hr
  clear hr
  rw [stepG_region_end]
  simp only [goes_go]
  refine ⟨hdq_idle _ _, ?_⟩
  refine Goes.step rfl (fun w hr => ?_)
  replace hF := (wb_rl fx hq) hF hr
  clear hr
  rw [stepG_seq]
  simp only [goes_go]
  refine ⟨hdq_idle _ _, ?_⟩
  refine Goes.step rfl (fun w hr => ?_)
  replace hF := (wb_rl fx hq) hF hr
  clear hr
  rw [stepG_region]
  simp only [goes_go, List.size_toArray, List.length_cons, List.length_nil, Nat.reduceAdd, Nat.zero_add, List.range, List.range.loop]
  refine ⟨hdq_idle _ _, ?_⟩
  refine Goes.step rfl (fun w hr => ?_)
  replace hF := (wb_rl fx hq) hF hr
  clear hr
  refine goes_oper_k rfl rfl (by k_ne) (fun K hK => ?_)
  go_simp
  refine hK _ _ ⟨?_, ?_⟩
  · rw [listed_nil (by simp [go_sem])]; exact hdq_idle _ _
  clear hK K
  try walk_nrm
  refine Goes.step rfl (fun w hr => ?_)
  replace hF := (wb_rl fx hq) hF hr
  clear hr
  refine goes_oper_k rfl rfl (by k_ne) (fun K hK => ?_)
  go_simp
  refine hK _ _ ⟨?_, ?_⟩
  · rw [listed_nil (by simp [go_sem])]; exact hdq_idle _ _
  clear hK K
  try walk_nrm
  refine Goes.mono (n := 10 + kc + 3) ?_ (by omega)
  refine Goes.call (hdq_terms X V) (f := 8) (args := #[.tmp 14]) (ats := #[3]) rfl rfl (by k_ne) rfl (by simp only [List.map_toArray, List.map_cons, List.map_nil, Act.eval]; exact hk false (Ext V) (HDq X) (hdq_terms X V) (fun w => WB B L Tk w ∧ Q w) (fun w w' h r => wb_rl fx hq h r) _ hF) (fun r w hv => ?_)
  clear hF hk
  obtain ⟨rfl, hF⟩ := hv
  try walk_nrm
  refine Goes.step rfl (fun w hr => ?_)
  replace hF := (wb_rl fx hq) hF hr
  clear hr
  refine goes_callc rfl rfl (by k_ne) rfl rfl Tryd.func39 rfl rfl ⟨hdq_idle _ _, ?_⟩
  simp only [Tryd.f39]
  walk_nrm
  refine Goes.stop (fun w hr => ⟨⟨_, ⟨?_, ?_, ?_, ?_, ?_, ?_⟩, rfl⟩, wb_rl fx hq hF hr⟩) <;> rfl
end
end

/-! ### CwAd2 -/
section
set_option linter.unusedSimpArgs false
open Go Go.Conc Go.RowKit Go.ConcR.Gen Cw

section
variable {X : Cx} {V : Nat → Prop} {B : Nat} {L : Addr → Value → Prop} {ev : Nat} {Tk Tk' Q : World → Prop}
set_option maxRecDepth 100000 in
set_option maxHeartbeats 2000000 in
theorem d_store (fx : Fx X V B L ev Tk) (fx' : Fx X V B L ev Tk') (hq : ∀ w w', Ext V w w' → Q w → Q w') {sb tm ab j m : Nat} {yf : Value} (hL : L ⟨ab, 0, none⟩ (pb sb)) (hm : m < 1000) (hj : j < 1000)
    (hsto : ∀ w, WB B L Tk w ∧ Q w → WB B L Tk' (w.setCell ⟨sb, 0, none⟩ (.int .i64 ((m + 1 : Nat) : Int))) ∧ Q (w.setCell ⟨sb, 0, none⟩ (.int .i64 ((m + 1 : Nat) : Int))))
    (hhd : ∀ w es, WB B L Tk w ∧ Q w → (∀ e ∈ es, e = ⟨.cell ⟨sb, 0, none⟩, true, false⟩) → HDq X w (w.setCell ⟨sb, 0, none⟩ (.int .i64 ((m + 1 : Nat) : Int))) es)
    (hc : ∀ w, Tk w → (∃ v, w.cell? ⟨sb, 0, none⟩ = some v) ∧ w.frozen? ⟨sb, 0, none⟩ = false)
    (cs : List Frame) (w : World) (hF : WB B L Tk w ∧ Q w) (T : Array Value) (hT : T.size = 23) (h1 : T[1]? = some yf) (h2 : T[2]? = some (pb ab)) (h4 : T[4]? = some (.int .i64 m)) (h6 : T[6]? = some (.int .i64 tm)) (h7 : T[7]? = some (.int .i64 j)) :
    Goes Tryd.prog false (Ext V) (HDq X) (fun g w => (∃ T', (T'.size = 23 ∧ T'[1]? = some yf ∧ T'[2]? = some (pb ab) ∧ T'[6]? = some (.int .i64 tm) ∧ T'[7]? = some (.int .i64 (j + 1 : Nat))) ∧ g = headD T' cs) ∧ WB B L Tk' w ∧ Q w) 40
      (G ((base 77).at ((⟨T, []⟩ : Act).put ((opsD4[3]?).bind (·.dst)) (.tuple #[])) (.inRegion opsD4 [] :: todoD)) cs) w := by
  have hwm : IntKind.i64.wrap ((m : Int) + 1) = ((m + 1 : Nat) : Int) := by rw [IntKind.wrap_i64]; omega
  have hwj : IntKind.i64.wrap ((j : Int) + 1) = ((j + 1 : Nat) : Int) := by rw [IntKind.wrap_i64]; omega
  rw [arrG23 T hT]
  simp only [gv_of h1, gv_of h2, gv_of h4, gv_of h6, gv_of h7]
  simp only [fAd, headD, todoD, opsD4, rndD, bodyD, inner, rt, lf, opsOf, Tryd.f77, Option.getD_some]
  walk_nrm
  refine Goes.step rfl (fun w hr => ?_)
  replace hF := (wb_rl fx hq) hF hr
  clear hr
  rw [stepG_region_end]
  simp only [goes_go]
  refine ⟨hdq_idle _ _, ?_⟩
  refine Goes.step rfl (fun w hr => ?_)
  replace hF := (wb_rl fx hq) hF hr
  clear hr
  rw [stepG_region]
  simp only [goes_go, List.size_toArray, List.length_cons, List.length_nil, Nat.reduceAdd, Nat.zero_add, List.range, List.range.loop]
  refine ⟨hdq_idle _ _, ?_⟩
  refine Goes.step rfl (fun w hr => ?_)
  replace hF := (wb_rl fx hq) hF hr
  clear hr
  refine goes_oper_k rfl rfl (by k_ne) (fun K hK => ?_)
  go_simp
  refine hK _ _ ⟨?_, ?_⟩
  · rw [listed_nil (by simp [go_sem])]; exact hdq_idle _ _
  clear hK K
  try walk_nrm
  refine Goes.step rfl (fun w hr => ?_)
  replace hF := (wb_rl fx hq) hF hr
  clear hr
  have hc := hF.1.kl _ _ hL
  refine goes_oper_k rfl rfl (by k_ne) (fun K hK => ?_)
  go_simp
  refine hK _ _ ⟨?_, ?_⟩
  · refine hdq_read (fun e he => ?_)
    have hm := mem_listed he
    simp [go_sem, *] at hm
    exact ⟨_, hm, block_of_cell hc, (fx.nv _ _ hL).2.1⟩
  clear hK K hc
  try walk_nrm
  refine Goes.step rfl (fun w hr => ?_)
  replace hF := (wb_rl fx hq) hF hr
  clear hr
  refine goes_oper_k rfl rfl (by k_ne) (fun K hK => ?_)
  go_simp
  refine hK _ _ ⟨?_, ?_⟩
  · rw [listed_nil (by simp [go_sem])]; exact hdq_idle _ _
  clear hK K
  try walk_nrm
  refine Goes.step rfl (fun w hr => ?_)
  replace hF := (wb_rl fx hq) hF hr
  clear hr
  refine goes_oper_k rfl rfl (by k_ne) (fun K hK => ?_)
  go_simp
  refine hK _ _ ⟨?_, ?_⟩
  · rw [listed_nil (by simp [go_sem])]; exact hdq_idle _ _
  clear hK K
  try walk_nrm
  refine Goes.step rfl (fun w hr => ?_)
  replace hF := (wb_rl fx hq) hF hr
  clear hr
  refine goes_oper_k rfl rfl (by k_ne) (fun K hK => ?_)
  go_simp
  refine hK _ _ ⟨?_, ?_⟩
  · rw [listed_nil (by simp [go_sem])]; exact hdq_idle _ _
  clear hK K
  try walk_nrm
  refine Goes.step rfl (fun w hr => ?_)
  replace hF := (wb_rl fx hq) hF hr
  clear hr
  obtain ⟨⟨v0, hc0⟩, hz0⟩ := hc w hF.1.task
  have hF0 := hF
  refine goes_oper_k rfl rfl (by k_ne) (fun K hK => ?_)
  go_simp
  try (unfold stored; go_simp)
  refine hK _ _ ⟨?_, ?_⟩
  · try simp only [hwm]
    refine hhd w _ hF0 (fun e he => ?_)
    have hm := mem_listed he
    simp [go_sem, storedEv, events_store_int, *] at hm
    exact hm
  clear hK K hc0 hz0
  try simp only [hwm]
  try walk_nrm
  replace hF := hsto w hF0
  clear hF0
  refine Goes.step rfl (fun w hr => ?_)
  replace hF := (wb_rl fx' hq) hF hr
  clear hr
  rw [stepG_region_end]
  simp only [goes_go]
  refine ⟨hdq_idle _ _, ?_⟩
  refine Goes.step rfl (fun w hr => ?_)
  replace hF := (wb_rl fx' hq) hF hr
  clear hr
  rw [stepG_inBlock]
  simp only [goes_go]
  refine ⟨hdq_idle _ _, ?_⟩
  refine Goes.step rfl (fun w hr => ?_)
  replace hF := (wb_rl fx' hq) hF hr
  clear hr
  rw [stepG_region]
  simp only [goes_go, List.size_toArray, List.length_cons, List.length_nil, Nat.reduceAdd, Nat.zero_add, List.range, List.range.loop]
  refine ⟨hdq_idle _ _, ?_⟩
  refine Goes.step rfl (fun w hr => ?_)
  replace hF := (wb_rl fx' hq) hF hr
  clear hr
  refine goes_oper_k rfl rfl (by k_ne) (fun K hK => ?_)
  go_simp
  refine hK _ _ ⟨?_, ?_⟩
  · rw [listed_nil (by simp [go_sem])]; exact hdq_idle _ _
  clear hK K
  try walk_nrm
  refine Goes.step rfl (fun w hr => ?_)
  replace hF := (wb_rl fx' hq) hF hr
  clear hr
  refine goes_oper_k rfl rfl (by k_ne) (fun K hK => ?_)
  go_simp
  refine hK _ _ ⟨?_, ?_⟩
  · rw [listed_nil (by simp [go_sem])]; exact hdq_idle _ _
  clear hK K
  try walk_nrm
  refine Goes.step rfl (fun w hr => ?_)
  replace hF := (wb_rl fx' hq) hF hr
  clear hr
  rw [stepG_region_end]
  simp only [goes_go]
  refine ⟨hdq_idle _ _, ?_⟩
  refine Goes.step rfl (fun w hr => ?_)
  replace hF := (wb_rl fx' hq) hF hr
  clear hr
  rw [stepG_inLoop]
  simp only [goes_go]
  refine ⟨hdq_idle _ _, ?_⟩
  refine Goes.stop (fun w hr => ⟨⟨_, ⟨?_, ?_, ?_, ?_, ?_⟩, rfl⟩, wb_rl fx' hq hF hr⟩) <;> first | rfl | simp [hwj]
end
set_option maxRecDepth 100000 in
set_option maxHeartbeats 2000000 in
/-- The loop is over: the task returns. -/
theorem d_end {R : World → World → Prop} {X : Cx} {Stop : Goroutine → World → Prop} {m : Nat} (hT' : ∀ a b c, R a b → R b c → R a c) (ev bi bs cr b1 b2 : Nat) (tv xv : Value) {tm j : Nat} (hj : ¬ j < tm) (cs : List Frame) (w : World) (T : Array Value) (hT : T.size = 23) (h6 : T[6]? = some (.int .i64 tm)) (h7 : T[7]? = some (.int .i64 j))
    (hF : Goes Tryd.prog false R (HDq X) Stop m (G ((base 18).at (actR ev bi bs cr b1 b2 tv xv (.tuple #[])) [.inRegion opsR []]) cs) w) :
    Goes Tryd.prog false R (HDq X) Stop (m + 9) (headD T (frR ev bi bs cr b1 b2 tv xv :: cs)) w := by
  have hRt : ∀ {w w' : World}, Goes Tryd.prog false R (HDq X) Stop m (G ((base 18).at (actR ev bi bs cr b1 b2 tv xv (.tuple #[])) [.inRegion opsR []]) cs) w → R w w' → Goes Tryd.prog false R (HDq X) Stop m (G ((base 18).at (actR ev bi bs cr b1 b2 tv xv (.tuple #[])) [.inRegion opsR []]) cs) w' := fun h r => h.rely hT' r
  have hji : ¬ (j : Int) < (tm : Int) := by omega
  unfold headD fAd
  rw [arrG23 T hT]
  simp only [gv_of h6, gv_of h7]
  simp only [fAd, headD, todoD, opsD4, rndD, bodyD, inner, rt, lf, opsOf, Tryd.f77, Option.getD_some]
  refine Goes.step rfl (fun w hr => ?_)
  replace hF := hRt hF hr
  clear hr
  rw [stepG_seq]
  simp only [goes_go]
  refine ⟨hdq_idle _ _, ?_⟩
  refine Goes.step rfl (fun w hr => ?_)
  replace hF := hRt hF hr
  clear hr
  rw [stepG_region]
  simp only [goes_go, List.size_toArray, List.length_cons, List.length_nil, Nat.reduceAdd, Nat.zero_add, List.range, List.range.loop]
  refine ⟨hdq_idle _ _, ?_⟩
  refine Goes.step rfl (fun w hr => ?_)
  replace hF := hRt hF hr
  clear hr
  refine goes_oper_k rfl rfl (by k_ne) (fun K hK => ?_)
  go_simp
  refine hK _ _ ⟨?_, ?_⟩
  · rw [listed_nil (by simp [go_sem, *])]; exact hdq_idle _ _
  clear hK K
  try walk_nrm
  refine Goes.step rfl (fun w hr => ?_)
  replace hF := hRt hF hr
  clear hr
  rw [stepG_region_end]
  simp only [goes_go]
  refine ⟨hdq_idle _ _, ?_⟩
  refine Goes.step rfl (fun w hr => ?_)
  replace hF := hRt hF hr
  clear hr
  rw [stepG_seq]
  simp only [goes_go]
  refine ⟨hdq_idle _ _, ?_⟩
  refine Goes.step rfl (fun w hr => ?_)
  replace hF := hRt hF hr
  clear hr
  rw [stepG_cond (t := false) (by first | rfl | (simp [Act.eval]; omega))]
  simp only [goes_go, if_true, if_false, Bool.false_eq_true, ↓reduceIte]
  refine ⟨hdq_idle _ _, ?_⟩
  refine Goes.step rfl (fun w hr => ?_)
  replace hF := hRt hF hr
  clear hr
  refine goes_exit rfl ?_
  refine ⟨hdq_idle _ _, ?_⟩
  refine Goes.step rfl (fun w hr => ?_)
  replace hF := hRt hF hr
  clear hr
  rw [stepG_end]
  simp only [goes_go]
  refine ⟨hdq_idle _ _, ?_⟩
  refine Goes.step rfl (fun w hr => ?_)
  replace hF := hRt hF hr
  clear hr
  unfold frR actR
  simp only [opsR, bodyR, rt, opsOf, Tryd.f18, Option.getD_some] at hF ⊢
  refine goes_leave0 rfl rfl Tryd.func77 rfl ⟨hdq_idle _ _, ?_⟩
  walk_nrm
  exact hF
set_option maxHeartbeats 2000000 in
theorem invoke_adder (x y : Value) (w : World) : (invoke (.fn (.method "Run") #[]) #[.iface 28 x, y]).run Tryd.prog w = .ok (.enter 77 #[x, y]) w := by kernel_rfl
theorem invoke_adderE (x y : Value) (w : World) (es : Array Event) : (invoke (.fn (.method "Run") #[]) #[.iface 28 x, y]).events Tryd.prog w es = es := by kernel_rfl
set_option maxHeartbeats 2000000 in
theorem goes_adder {main : Bool} {b : Frame} {a : Act} {k : List Item} {cs : List Frame} {w : World} {ops : Array Oper} {i : Nat} {rest : List Nat} {o : Oper} {K : Goroutine → World → Array Event → Prop} {r y : Operand} {ats : Array TypeId} {x : Value} (ho : ops[i]? = some o) (hw : Region.wanted o (yielded ops a.tmps) = true) (hk : b.kind ≠ .early)
    (hop : o.op = .call { callee := .invoke r "Run", args := #[y], argTypes := ats }) (hr : a.eval r = .iface 28 x) (h : K (G (fAd #[x, a.eval y, undef, undef, undef, undef, undef, undef, undef, undef, undef, undef, undef, undef, undef, undef, undef, undef, undef, undef, undef, undef, undef] [.code bodyD]) (b.at a (.inRegion ops (i :: rest) :: k) :: cs)) w #[]) :
    (stepG Tryd.prog main (G (b.at a (.inRegion ops (i :: rest) :: k)) cs) w).goes K := by
  have hrun : (execOp a.eval o).run Tryd.prog w = .ok (.enter 77 #[x, a.eval y]) w := by
    unfold execOp
    simp [hop, resolve, hr, invoke_adder]
  have hev : (execOp a.eval o).events Tryd.prog w #[] = #[] := by
    unfold execOp
    simp [hop, resolve, hr, invoke_adderE]
  rw [stepG_enter ho hw hk hrun, enter_at (c := bodyD) _ Tryd.func77 (by simp [bodyD, Tryd.f77]), listed_nil hev]
  simp only [Tryd.ntmps77, List.size_toArray, List.length_cons, List.length_nil, Nat.reduceAdd, Nat.reduceSub, Nat.zero_add, Nat.sub_zero, Array.replicate_succ, Array.replicate_zero, List.push_toArray, List.append_toArray, List.nil_append, List.cons_append]
  exact h
set_option maxRecDepth 100000 in
set_option maxHeartbeats 2000000 in
/-- Served for the first time, the worker enters its task. -/
theorem d_begin {R : World → World → Prop} {X : Cx} {Stop : Goroutine → World → Prop} {m : Nat} (hT : ∀ a b c, R a b → R b c → R a c) (wg bw bt ev bi bs cr b1 b2 : Nat) (x xv : Value) (w : World)
    (hF : Goes Tryd.prog false R (HDq X) Stop m (G (fAd #[x, yldF b1 b2, undef, undef, undef, undef, undef, undef, undef, undef, undef, undef, undef, undef, undef, undef, undef, undef, undef, undef, undef, undef, undef] [.code bodyD]) [frR ev bi bs cr b1 b2 (.iface 28 x) xv, fr3 wg bw bt ev bi bs (.iface 28 x), bot]) w) :
    Goes Tryd.prog false R (HDq X) Stop (m + 5) (Go.Conc.served (at1 wg bw bt ev bi bs cr b1 b2 (.iface 28 x)) xv) w := by
  have hRt : ∀ {w w' : World}, Goes Tryd.prog false R (HDq X) Stop m (G (fAd #[x, yldF b1 b2, undef, undef, undef, undef, undef, undef, undef, undef, undef, undef, undef, undef, undef, undef, undef, undef, undef, undef, undef, undef, undef] [.code bodyD]) [frR ev bi bs cr b1 b2 (.iface 28 x) xv, fr3 wg bw bt ev bi bs (.iface 28 x), bot]) w → R w w' →
    Goes Tryd.prog false R (HDq X) Stop m (G (fAd #[x, yldF b1 b2, undef, undef, undef, undef, undef, undef, undef, undef, undef, undef, undef, undef, undef, undef, undef, undef, undef, undef, undef, undef, undef] [.code bodyD]) [frR ev bi bs cr b1 b2 (.iface 28 x) xv, fr3 wg bw bt ev bi bs (.iface 28 x), bot]) w' := fun h r => h.rely hT r
  unfold at1
  rw [served_fr, Frame.finish_at]
  simp only [bodyR, rt, lf, opsOf, Tryd.f18, Option.getD_some]
  walk_nrm
  refine Goes.step rfl (fun w hr => ?_)
  replace hF := hRt hF hr
  clear hr
  rw [stepG_region_end]
  simp only [goes_go]
  refine ⟨hdq_idle _ _, ?_⟩
  refine Goes.step rfl (fun w hr => ?_)
  replace hF := hRt hF hr
  clear hr
  rw [stepG_region]
  simp only [goes_go, List.size_toArray, List.length_cons, List.length_nil, Nat.reduceAdd, Nat.zero_add, List.range, List.range.loop]
  refine ⟨hdq_idle _ _, ?_⟩
  refine Goes.step rfl (fun w hr => ?_)
  replace hF := hRt hF hr
  clear hr
  refine goes_oper_k rfl rfl (by k_ne) (fun K hK => ?_)
  go_simp
  refine hK _ _ ⟨?_, ?_⟩
  · rw [listed_nil (by simp [go_sem])]; exact hdq_idle _ _
  clear hK K
  try walk_nrm
  refine Goes.step rfl (fun w hr => ?_)
  replace hF := hRt hF hr
  clear hr
  refine goes_oper_k rfl rfl (by k_ne) (fun K hK => ?_)
  go_simp
  refine hK _ _ ⟨?_, ?_⟩
  · rw [listed_nil (by simp [go_sem])]; exact hdq_idle _ _
  clear hK K
  try walk_nrm
  refine Goes.step rfl (fun w hr => ?_)
  replace hF := hRt hF hr
  clear hr
  refine goes_adder rfl rfl (by k_ne) rfl rfl ⟨hdq_idle _ _, ?_⟩
  unfold frR actR at hF
  simp only [opsR, bodyR, rt, lf, opsOf, Tryd.f18, Option.getD_some] at hF
  walk_nrm
  exact hF
end
end Go.Proofs.YtggfcdhkgldbfaaDoor
