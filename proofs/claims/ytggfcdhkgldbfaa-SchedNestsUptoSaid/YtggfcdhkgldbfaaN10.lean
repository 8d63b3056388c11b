/-
  PARTS of a claim, merged by segs.py: NwB, NwC.
-/
import Derived.Test.YtggfcdhkgldbfaaN09
import Derived.Laws.Tables
import Derived.Great.BuildSlice
namespace Go.Proofs.Ytggfcdhkgldbfaa
set_option linter.unusedSimpArgs false
set_option linter.unusedVariables false

/-! ### NwB -/
section
open Go Go.Conc Go.RowKit Go.ConcR.Gen Cw

noncomputable def bodyY : Code := Try.f41.body.getD .skip
/-- What worker number i leans on once it stands at its receive. -/
abbrev Lean2 (bw bt ev bi bs cr cp b1 b2 : Nat) (tv : Value) (i : Int) : Addr → Value → Prop := plus (plus (Lean0 bw bt bi bs cr cp tv i) b1 (pb bs)) b2 (recF ev bi)
def evCells : List (Int × ByteArray) → List Value
  | [] => []
  | (i, s) :: r => .int .i64 i :: .string s :: evCells r
theorem evCells_add (E : List (Int × ByteArray)) (i : Int) (s : ByteArray) : evCells (E ++ [(i, s)]) = evCells E ++ [.int .i64 i, .string s] := by
  induction E with
  | nil => rfl
  | cons x r ih => simp [evCells, ih]
/-- Block b holds no events. -/
def NotEv (w : World) (b : Nat) : Prop := ∀ cs, w.heap[b]? ≠ some (.cells cs 40 (0, 0))
/-- Only the events' blocks turn. -/
structure OnlyEv (X : Cx) (ev : Nat) (w w' : World) : Prop where
  size : w.heap.size ≤ w'.heap.size
  same : ∀ b, b < w.heap.size → b ≠ ev → (NotEv w b ∨ X.Lo b ∨ ∃ a, X.St a ∧ a.block = b) → w'.heap[b]? = w.heap[b]?
/-- The events so far: the variable's block ev. -/
structure Evs (X : Cx) (V : Nat → Prop) (ev : Nat) (E : List (Int × ByteArray)) (u : Value) (w : World) : Prop where
  cell : w.heap[ev]? = some (.cells #[u] 28 (0, 0))
  row : w.ownsRow 0 40 2 u E.length (evCells E)
  ok : ∀ g, u.ownBlock = some g → Ok X V g
/-- What a worker that holds the token knows of the world, but for the events. -/
structure WB (X : Cx) (B : Nat) (L : Addr → Value → Prop) (Tk : World → Prop) (w : World) : Prop where
  kl : Kl L w
  size : B ≤ w.heap.size
  task : Tk w
  lt : ∀ a v, L a v → NotEv w a.block ∨ X.St a
/-- What is fixed. -/
structure Fx (X : Cx) (V : Nat → Prop) (B : Nat) (L : Addr → Value → Prop) (ev : Nat) (Tk : World → Prop) : Prop where
  floor : Floor X V B
  bx : X.Bx = BxW
  ok : Ok X V ev
  evlt : ev < B
  nv : ∀ a v, L a v → ¬ V a.block ∧ ¬ X.Sh (.cell a) ∧ a.block ≠ ev
  keepR : ∀ w w', Ext V w w' → Tk w → Tk w'
  keepO : ∀ w w', OnlyEv X ev w w' → Tk w → Tk w'
section
variable {X : Cx} {V : Nat → Prop} {B : Nat} {L : Addr → Value → Prop} {ev : Nat} {E : List (Int × ByteArray)} {Tk Q : World → Prop} {w w' : World} {u : Value}
theorem wb_rl (fx : Fx X V B L ev Tk) (hq : ∀ w w', Ext V w w' → Q w → Q w') (h : WB X B L Tk w ∧ Q w) (r : Ext V w w') : WB X B L Tk w' ∧ Q w' := by
  refine ⟨⟨fun a v hav => ?_, Nat.le_trans h.1.size r.size, fx.keepR w w' r h.1.task, fun a v hav => (h.1.lt a v hav).imp (fun hn cs => ?_) id⟩, hq w w' r h.2⟩
  · rw [cell_of_block (r.same _ (block_of_cell (h.1.kl a v hav)) (fx.nv a v hav).1)]; exact h.1.kl a v hav
  · rw [r.same _ (block_of_cell (h.1.kl a v hav)) (fx.nv a v hav).1]; exact hn cs
theorem evs_rl (fx : Fx X V B L ev Tk) (w w' : World) (r : Ext V w w') (h : Evs X V ev E u w) : Evs X V ev E u w' :=
  ⟨(fx.ok.same r (Array.getElem?_eq_some_iff.1 h.cell).1).trans h.cell, ownsRow_ext h.row r fun g hg => (h.ok g hg).nv, h.ok⟩
theorem WB.only (fx : Fx X V B L ev Tk) (h : WB X B L Tk w) (r : OnlyEv X ev w w') : WB X B L Tk w' := by
  have e : ∀ a v, L a v → w'.heap[a.block]? = w.heap[a.block]? := fun a v hav => r.same _ (block_of_cell (h.kl a v hav)) (fx.nv a v hav).2.2 ((h.lt a v hav).imp id fun x => .inr ⟨a, x, rfl⟩)
  exact ⟨fun a v hav => by rw [cell_of_block (e a v hav)]; exact h.kl a v hav, Nat.le_trans h.size r.size, fx.keepO w w' r h.task, fun a v hav => (h.lt a v hav).imp (fun hn cs => by rw [e a v hav]; exact hn cs) id⟩
theorem onlyEv_alloc (X : Cx) (ev : Nat) (w : World) (o : Obj) : OnlyEv X ev w (w.alloc o) := ⟨by simp, fun b hb _ _ => heap_alloc_old w o b hb⟩
theorem onlyEv_set (X : Cx) (w : World) (ev : Nat) (v : Value) : OnlyEv X ev w (w.setCell ⟨ev, 0, none⟩ v) := ⟨by rw [size_setCell']; exact Nat.le_refl _, fun b _ hne _ => heap_setCell_ne w _ v hne⟩
theorem onlyEv_grown {row : Option Nat} (hg : w.grownBy w' row) (hr : ∀ g, row = some g → ¬ NotEv w g ∧ ¬ X.Lo g ∧ ∀ a, a.block = g → ¬ X.St a) : OnlyEv X ev w w' := ⟨hg.size, fun b hb _ hn => hg.block b hb fun e => hn.elim (hr b e.symm).1 fun hn => hn.elim (hr b e.symm).2.1 fun ⟨a, h1, h2⟩ => (hr b e.symm).2.2 a h2 h1⟩
theorem Evs.alloc (h : Evs X V ev E u w) (o : Obj) : Evs X V ev E u (w.alloc o) := ⟨(heap_alloc_old w o ev (Array.getElem?_eq_some_iff.1 h.cell).1).trans h.cell, h.row.alloc o, h.ok⟩
/-- The block of the events' row. -/
theorem Evs.own (h : Evs X V ev E u w) {g : Nat} (hg : u.ownBlock = some g) : ∃ cur, w.heap[g]? = some (.cells cur 40 (0, 0)) := by
  rcases h.row.2 with ⟨rfl, _⟩ | ⟨g', cap, cur, rfl, _, hgg, _⟩
  · simp [Value.ownBlock] at hg
  · simp [Value.ownBlock] at hg
    subst hg
    exact ⟨cur, hgg⟩
end

section
variable {X : Cx} {V : Nat → Prop} {B : Nat} {L : Addr → Value → Prop} {ev nb : Nat} {E : List (Int × ByteArray)} {Tk : World → Prop} {w w' : World} {u : Value} {o : Obj}
theorem evn_rl (fx : Fx X V B L ev Tk) (hn : B ≤ nb) (w w' : World) (r : Ext V w w') (h : Evs X V ev E u w ∧ w.heap[nb]? = some o) : Evs X V ev E u w' ∧ w'.heap[nb]? = some o :=
  ⟨evs_rl fx w w' r h.1, (r.same nb (Array.getElem?_eq_some_iff.1 h.2).1 (fx.floor.ok hn).nv).trans h.2⟩
/-- Behind the append, ahead of the store. -/
structure Grown (X : Cx) (V : Nat → Prop) (ev : Nat) (E : List (Int × ByteArray)) (u u' : Value) (w : World) : Prop where
  cell : w.heap[ev]? = some (.cells #[u] 28 (0, 0))
  row : w.ownsRow 0 40 2 u' E.length (evCells E)
  ok : ∀ g, u'.ownBlock = some g → Ok X V g
  ne : u'.ownBlock ≠ some ev
theorem grown_rl {u' : Value} (fx : Fx X V B L ev Tk) (w w' : World) (r : Ext V w w') (h : Grown X V ev E u u' w) : Grown X V ev E u u' w' :=
  ⟨(fx.ok.same r (Array.getElem?_eq_some_iff.1 h.cell).1).trans h.cell, ownsRow_ext h.row r fun g hg => (h.ok g hg).nv, h.ok, h.ne⟩
theorem Evs.not_box (h : Evs X V ev E u w) (hbx : X.Bx = BxW) {g : Nat} (hg : u.ownBlock = some g) : ¬ BoxAt X w g := by
  obtain ⟨cur, hc⟩ := h.own hg
  rintro ⟨v, ty, hv, hb, _⟩
  rw [hc] at hv
  cases hv
  rw [hbx] at hb
  rcases hb with ⟨_, _, e | ⟨e, _⟩⟩ | e <;> cases e
theorem ev_not_box {u : Value} (h : w.heap[ev]? = some (.cells #[u] 28 (0, 0))) (hbx : X.Bx = BxW) : ¬ BoxAt X w ev := by
  rintro ⟨v, ty, hv, hb, _⟩
  rw [h] at hv
  cases hv
  rw [hbx] at hb
  rcases hb with ⟨_, _, e | ⟨e, _⟩⟩ | e <;> cases e
end
theorem infoEv : ∃ it, Try.prog.info? 40 = some it ∧ it.zero = some (.agg #[.int .i64 0, .string .empty]) ∧ it.size = 2 ∧ it.bytes = 24 := by
  have h : (Try.prog.info? 40).map (fun i => (i.zero, i.size, i.bytes)) = some (some (.agg #[.int .i64 0, .string .empty]), 2, 24) := by kernel_rfl
  obtain ⟨i, hi, hb⟩ := Option.map_eq_some_iff.1 h
  simp at hb
  exact ⟨i, hi, hb⟩
theorem bld (i : Int) (s : ByteArray) (w : World) : (Instr.build 40 #[(0, .int .i64 i), (1, .string s)]).run Try.prog w = .ok (.agg #[.int .i64 i, .string s]) w := run_build w _ _ _ (by kernel_rfl)
theorem bldE (i : Int) (s : ByteArray) (w : World) (es : Array Event) : (Instr.build 40 #[(0, .int .i64 i), (1, .string s)]).events Try.prog w es = es := by
  obtain ⟨it, hit, h1, _⟩ := infoEv
  obtain ⟨i3, h3, g3⟩ : ∃ it, Try.prog.info? 3 = some it ∧ it.size = 1 := by
    have h : (Try.prog.info? 3).map (·.size) = some 1 := by kernel_rfl
    obtain ⟨i, hi, hb⟩ := Option.map_eq_some_iff.1 h
    exact ⟨i, hi, hb⟩
  obtain ⟨i9, h9, g9⟩ : ∃ it, Try.prog.info? 9 = some it ∧ it.size = 1 := by
    have h : (Try.prog.info? 9).map (·.size) = some 1 := by kernel_rfl
    obtain ⟨i, hi, hb⟩ := Option.map_eq_some_iff.1 h
    exact ⟨i, hi, hb⟩
  simp [Instr.build, go_sem, sizeOf, typeInfo, zeroValue, hit, h1, h3, g3, h9, g9]
theorem bls (i : Int) (s : ByteArray) (w : World) : (Instr.buildSlice 28 1 #[(0, .agg #[.int .i64 i, .string s])]).run Try.prog w = .ok (.slice (some ⟨w.heap.size, 0, none⟩) 1 1) (w.alloc (.cells #[.int .i64 i, .string s] 40)) := by
  obtain ⟨it, hit, h1, h2, _⟩ := infoEv
  refine run_buildSlice w _ _ 1 _ _ it _ (by kernel_rfl) hit h1 (by rw [h2]; omega) (by rw [h2]; omega) ?_
  rw [h2]
  kernel_rfl
theorem blsE (i : Int) (s : ByteArray) (w : World) (es : Array Event) : (Instr.buildSlice 28 1 #[(0, .agg #[.int .i64 i, .string s])]).events Try.prog w es = es := by
  obtain ⟨it, hit, h1, h2, _⟩ := infoEv
  simp [Instr.buildSlice, go_sem, sizeOf, typeInfo, zeroValue, hit, h1, h2]

/-- A worker at the send that ends a yield. -/
noncomputable def atY (bs cp b1 b2 ev bi : Nat) (s : ByteArray) (cs : List Frame) : Goroutine :=
  G ((base 41).at ⟨#[.string s, pb b2, pb b1, undef, recF ev bi, .string s, .tuple #[], pb bs, pb bs, .pointer (some ⟨bs, 1, none⟩), .chan (some cp), undef, undef, undef, undef, undef], []⟩ [.inRegion (opsOf (lf (rt bodyY))) [4], .code (rt (rt bodyY))]) cs

set_option maxRecDepth 100000 in
theorem y_walk {X : Cx} {V : Nat → Prop} {B : Nat} {Tk : World → Prop} {bw bt ev bi bs cr cp b1 b2 : Nat} {tv : Value} {i : Int} {E : List (Int × ByteArray)} {u : Value} {L : Addr → Value → Prop} (hsub : ∀ a v, Lean2 bw bt ev bi bs cr cp b1 b2 tv i a v → L a v) (fx : Fx X V B L ev Tk) (s : ByteArray) (hE : (E.length + 1) * 1024 ≤ 140737488355328) (cs : List Frame) (w : World)
    (hF : WB X B L Tk w ∧ Evs X V ev E u w) :
    Goes Try.prog false (Ext V) (HDq X) (fun g w => g = atY bs cp b1 b2 ev bi s cs ∧ WB X B L Tk w ∧ ∃ u, Evs X V ev (E ++ [(i, s)]) u w) 60
      (G ((base 41).at ⟨#[.string s, pb b2, pb b1, undef, undef, undef, undef, undef, undef, undef, undef, undef, undef, undef, undef, undef], []⟩ [.code bodyY]) cs) w := by
  have hb2 : L ⟨b2, 0, none⟩ (recF ev bi) := hsub _ _ (.inr ⟨rfl, rfl⟩)
  have hb1 : L ⟨b1, 0, none⟩ (pb bs) := hsub _ _ (.inl (.inr ⟨rfl, rfl⟩))
  have hbi : L ⟨bi, 0, none⟩ (.int .i64 i) := hsub _ _ (.inl (.inl (.inr (.inr (.inl ⟨rfl, rfl⟩)))))
  have hs1 : L ⟨bs, 1, none⟩ (.chan (some cp)) := hsub _ _ (.inl (.inl (.inr (.inr (.inr (.inr ⟨rfl, rfl⟩))))))
  have hq := evs_rl (E := E) (u := u) fx
  have hok : Ok X V ev := fx.ok
  simp only [bodyY, Try.f41, Option.getD_some]
  refine Goes.step rfl (fun w hr => ?_)
  replace hF := (wb_rl fx hq) hF hr
  clear hr
  rw [stepG_seq]
  simp only [goes_go]
  refine ⟨hdq_idle _ _, ?_⟩
  refine Goes.step rfl (fun w hr => ?_)
  replace hF := (wb_rl fx hq) hF hr
  clear hr
  rw [stepG_region]
  simp only [goes_go, List.size_toArray, List.length_cons, List.length_nil, Nat.reduceAdd, Nat.zero_add, List.range, List.range.loop]
  refine ⟨hdq_idle _ _, ?_⟩
  refine Goes.step rfl (fun w hr => ?_)
  replace hF := (wb_rl fx hq) hF hr
  clear hr
  have hc := hF.1.kl _ _ hb2
  refine goes_oper_k rfl rfl (by k_ne) (fun K hK => ?_)
  go_simp
  refine hK _ _ ⟨?_, ?_⟩
  · refine hdq_read (fun e he => ?_)
    have hm := mem_listed he
    simp [go_sem, *] at hm
    exact ⟨_, hm, block_of_cell hc, (fx.nv _ _ hb2).2.1⟩
  clear hK K hc
  try walk_nrm
  refine Goes.step rfl (fun w hr => ?_)
  replace hF := (wb_rl fx hq) hF hr
  clear hr
  refine goes_oper_k rfl rfl (by k_ne) (fun K hK => ?_)
  go_simp
  refine hK _ _ ⟨?_, ?_⟩
  · rw [listed_nil (by simp [go_sem])]; exact hdq_idle _ _
  clear hK K
  try walk_nrm
  refine Goes.step rfl (fun w hr => ?_)
  replace hF := (wb_rl fx hq) hF hr
  clear hr
  refine goes_callc rfl rfl (by k_ne) rfl rfl Try.func22 rfl rfl ⟨hdq_idle _ _, ?_⟩
  simp only [Try.f22]
  walk_nrm
  refine Goes.step rfl (fun w hr => ?_)
  replace hF := (wb_rl fx hq) hF hr
  clear hr
  rw [stepG_region]
  simp only [goes_go, List.size_toArray, List.length_cons, List.length_nil, Nat.reduceAdd, Nat.zero_add, List.range, List.range.loop]
  refine ⟨hdq_idle _ _, ?_⟩
  refine Goes.step rfl (fun w hr => ?_)
  replace hF := (wb_rl fx hq) hF hr
  clear hr
  have hc := (show w.cell? ⟨ev, 0, none⟩ = some u by simp [World.cell?, hF.2.cell])
  refine goes_oper_k rfl rfl (by k_ne) (fun K hK => ?_)
  go_simp
  refine hK _ _ ⟨?_, ?_⟩
  · refine hdq_read (fun e he => ?_)
    have hm := mem_listed he
    simp [go_sem, *] at hm
    exact ⟨_, hm, block_of_cell hc, hok.sh _ rfl⟩
  clear hK K hc
  try walk_nrm
  refine Goes.step rfl (fun w hr => ?_)
  replace hF := (wb_rl fx hq) hF hr
  clear hr
  have hc := hF.1.kl _ _ hbi
  refine goes_oper_k rfl rfl (by k_ne) (fun K hK => ?_)
  go_simp
  refine hK _ _ ⟨?_, ?_⟩
  · refine hdq_read (fun e he => ?_)
    have hm := mem_listed he
    simp [go_sem, *] at hm
    exact ⟨_, hm, block_of_cell hc, (fx.nv _ _ hbi).2.1⟩
  clear hK K hc
  try walk_nrm
  refine Goes.step rfl (fun w hr => ?_)
  replace hF := (wb_rl fx hq) hF hr
  clear hr
  refine goes_oper_k rfl rfl (by k_ne) (fun K hK => ?_)
  go_simp
  refine hK _ _ ⟨?_, ?_⟩
  · rw [listed_nil (by simp [go_sem])]; exact hdq_idle _ _
  clear hK K
  try walk_nrm
  refine Goes.step rfl (fun w hr => ?_)
  replace hF := (wb_rl fx hq) hF hr
  clear hr
  have hb := bld i s w
  have hbe := bldE i s w #[]
  refine goes_oper_k rfl rfl (by k_ne) (fun K hK => ?_)
  go_simp
  refine hK _ _ ⟨?_, ?_⟩
  · rw [listed_nil (by simp [go_sem, *])]; exact hdq_idle _ _
  clear hK K hb hbe
  try walk_nrm
  refine Goes.step rfl (fun w hr => ?_)
  replace hF := (wb_rl fx hq) hF hr
  clear hr
  have hb := bls i s w
  have hbe := blsE i s w #[]
  refine goes_oper_k rfl rfl (by k_ne) (fun K hK => ?_)
  go_simp
  refine hK _ _ ⟨?_, ?_⟩
  · rw [listed_nil (by simp [go_sem, *])]
    exact hdq_alloc (fun a ha => Nat.lt_of_lt_of_le (fx.floor.st a ha) hF.1.size) (fun c hc => Nat.lt_of_lt_of_le (fx.floor.ch c hc) hF.1.size) (fun b o => Nat.lt_of_lt_of_le (fx.floor.wg b o) hF.1.size) (by simp)
  clear hK K hb hbe
  try walk_nrm
  have hn := hF.1.size
  replace hF : WB X B L Tk (w.alloc (.cells #[.int .i64 i, .string s] 40)) ∧ (Evs X V ev E u (w.alloc (.cells #[.int .i64 i, .string s] 40)) ∧ (w.alloc (.cells #[.int .i64 i, .string s] 40)).heap[w.heap.size]? = some (.cells #[.int .i64 i, .string s] 40)) :=
    ⟨hF.1.only fx (onlyEv_alloc X ev w _), hF.2.alloc _, heap_alloc_new w _⟩
  generalize w.heap.size = nb at *
  generalize w.alloc _ = w at *
  clear hq
  have hq := evn_rl (E := E) (u := u) (o := .cells #[.int .i64 i, .string s] 40) fx hn
  refine Goes.step rfl (fun w hr => ?_)
  replace hF := (wb_rl fx hq) hF hr
  clear hr
  obtain ⟨it, hit, hz1, hz2, hz3⟩ := infoEv
  have hcell : ∀ j v, [Value.int .i64 i, .string s][j]? = some v → w.cell? ((⟨nb, 0, none⟩ : Addr).add j) = some v := by
    intro j v hv
    have hadd : (⟨nb, 0, none⟩ : Addr).add j = ⟨nb, j, none⟩ := by unfold Addr.add; split <;> simp_all
    rw [hadd]
    simp [World.cell?, hF.2.2]
    simpa using hv
  refine goes_append fx.floor hF.1.size rfl rfl (by k_ne) (.tmp 4) (.tmp 8) 28 rfl (by kernel_rfl) hit hz1 hz2 hz3 (by rfl) (by omega) rfl hF.2.1.row (m := 1) (news := [.int .i64 i, .string s]) rfl (by omega) (by simp) hcell (by simp [Value.oneCell']) (by simp only [maxLen]; omega) (by omega) (Nat.zero_le _)
    (fun g hg => ⟨hF.2.1.ok g hg, hF.2.1.not_box fx.bx hg⟩) ⟨fx.floor.ok hn, (Array.getElem?_eq_some_iff.1 hF.2.2).1⟩ (fun v' w' ho' hg hok' => ?_)
  clear hcell hit hz1 hz2 hz3 it
  have hO : OnlyEv X ev w w' := onlyEv_grown hg (fun g h => ⟨fun hn' => by obtain ⟨cur, hc⟩ := hF.2.1.own h; exact hn' cur hc, (hF.2.1.ok g h).ex, (hF.2.1.ok g h).st⟩)
  have hne : some ev ≠ u.ownBlock := fun e => by
    obtain ⟨cur, hc⟩ := hF.2.1.own e.symm
    rw [hF.2.1.cell] at hc; cases hc
  have hcell : w'.heap[ev]? = some (.cells #[u] 28 (0, 0)) := (hg.block ev (Array.getElem?_eq_some_iff.1 hF.2.1.cell).1 hne).trans hF.2.1.cell
  have hne' : v'.ownBlock ≠ some ev := by
    rcases ho'.2 with ⟨rfl, _⟩ | ⟨g, cap, cur, rfl, _, hgg, _⟩
    · simp [Value.ownBlock]
    · intro e
      simp only [Value.ownBlock, Option.some.injEq] at e
      subst e
      rw [hcell] at hgg; cases hgg
  replace hF : WB X B L Tk w' ∧ Grown X V ev (E ++ [(i, s)]) u v' w' := ⟨hF.1.only fx hO, ⟨hcell, by rw [List.length_append, evCells_add]; exact ho', hok', hne'⟩⟩
  clear hO hne hcell hne' ho' hg hok' hn hq w
  obtain ⟨w, rfl⟩ : ∃ x, x = w' := ⟨_, rfl⟩
  obtain ⟨p, n', c', rfl⟩ : ∃ p n c, v' = .slice p n c := by
    rcases hF.2.row.2 with ⟨rfl, _⟩ | ⟨g, cap, cur, rfl, _⟩ <;> exact ⟨_, _, _, rfl⟩
  have hq := grown_rl (E := E ++ [(i, s)]) (u := u) (u' := .slice p n' c') fx
  walk_nrm
  refine Goes.step rfl (fun w hr => ?_)
  replace hF := (wb_rl fx hq) hF hr
  clear hr
  have hc : w.cell? ⟨ev, 0, none⟩ = some u := by simp [World.cell?, hF.2.cell]
  have hz : w.frozen? ⟨ev, 0, none⟩ = false := by simp [World.frozen?, hF.2.cell]
  refine goes_oper_k rfl rfl (by k_ne) (fun K hK => ?_)
  go_simp
  try (unfold stored; go_simp)
  refine hK _ _ ⟨?_, ?_⟩
  · refine hok.write (block_of_cell hc) (ev_not_box hF.2.cell fx.bx) (fun e he => ?_)
    have hm := mem_listed he
    simp [go_sem, storedEv, *] at hm
    exact hm
  clear hK K hc hz
  try walk_nrm
  replace hF : WB X B L Tk (w.setCell ⟨ev, 0, none⟩ (.slice p n' c')) ∧ Evs X V ev (E ++ [(i, s)]) (.slice p n' c') (w.setCell ⟨ev, 0, none⟩ (.slice p n' c')) := by
    refine ⟨hF.1.only fx (onlyEv_set X w ev _), ?_, ⟨hF.2.row.1, ?_⟩, hF.2.ok⟩
    · simp [World.setCell, Array.getElem?_modify, hF.2.cell]
    · rcases hF.2.row.2 with hn | ⟨g, cap, cur, he, hb, hgg, rest⟩
      · exact .inl hn
      · exact .inr ⟨g, cap, cur, he, hb, (heap_setCell_ne w _ _ fun e => hF.2.ne (by rw [he]; simp [Value.ownBlock, e])).trans hgg, rest⟩
  generalize w.setCell ⟨ev, 0, none⟩ (.slice p n' c') = w at *
  clear hq
  have hq := evs_rl (E := E ++ [(i, s)]) (u := .slice p n' c') fx
  refine Goes.step rfl (fun w hr => ?_)
  replace hF := (wb_rl fx hq) hF hr
  clear hr
  rw [stepG_region_end]
  simp only [goes_go]
  refine ⟨hdq_idle _ _, ?_⟩
  refine Goes.step rfl (fun w hr => ?_)
  replace hF := (wb_rl fx hq) hF hr
  clear hr
  rw [stepG_end]
  simp only [goes_go]
  refine ⟨hdq_idle _ _, ?_⟩
  refine Goes.step rfl (fun w hr => ?_)
  replace hF := (wb_rl fx hq) hF hr
  clear hr
  refine goes_leave0 rfl rfl Try.func22 rfl ⟨hdq_idle _ _, ?_⟩
  try walk_nrm
  refine Goes.step rfl (fun w hr => ?_)
  replace hF := (wb_rl fx hq) hF hr
  clear hr
  rw [stepG_region_end]
  simp only [goes_go]
  refine ⟨hdq_idle _ _, ?_⟩
  refine Goes.step rfl (fun w hr => ?_)
  replace hF := (wb_rl fx hq) hF hr
  clear hr
  rw [stepG_seq]
  simp only [goes_go]
  refine ⟨hdq_idle _ _, ?_⟩
  refine Goes.step rfl (fun w hr => ?_)
  replace hF := (wb_rl fx hq) hF hr
  clear hr
  rw [stepG_region]
  simp only [goes_go, List.size_toArray, List.length_cons, List.length_nil, Nat.reduceAdd, Nat.zero_add, List.range, List.range.loop]
  refine ⟨hdq_idle _ _, ?_⟩
  refine Goes.step rfl (fun w hr => ?_)
  replace hF := (wb_rl fx hq) hF hr
  clear hr
  have hc := hF.1.kl _ _ hb1
  refine goes_oper_k rfl rfl (by k_ne) (fun K hK => ?_)
  go_simp
  refine hK _ _ ⟨?_, ?_⟩
  · refine hdq_read (fun e he => ?_)
    have hm := mem_listed he
    simp [go_sem, *] at hm
    exact ⟨_, hm, block_of_cell hc, (fx.nv _ _ hb1).2.1⟩
  clear hK K hc
  try walk_nrm
  refine Goes.step rfl (fun w hr => ?_)
  replace hF := (wb_rl fx hq) hF hr
  clear hr
  refine goes_oper_k rfl rfl (by k_ne) (fun K hK => ?_)
  go_simp
  refine hK _ _ ⟨?_, ?_⟩
  · rw [listed_nil (by simp [go_sem])]; exact hdq_idle _ _
  clear hK K
  try walk_nrm
  refine Goes.step rfl (fun w hr => ?_)
  replace hF := (wb_rl fx hq) hF hr
  clear hr
  refine goes_oper_k rfl rfl (by k_ne) (fun K hK => ?_)
  go_simp
  refine hK _ _ ⟨?_, ?_⟩
  · rw [listed_nil (by simp [go_sem])]; exact hdq_idle _ _
  clear hK K
  try walk_nrm
  refine Goes.step rfl (fun w hr => ?_)
  replace hF := (wb_rl fx hq) hF hr
  clear hr
  have hc := hF.1.kl _ _ hs1
  refine goes_oper_k rfl rfl (by k_ne) (fun K hK => ?_)
  go_simp
  refine hK _ _ ⟨?_, ?_⟩
  · refine hdq_read (fun e he => ?_)
    have hm := mem_listed he
    simp [go_sem, *] at hm
    exact ⟨_, hm, block_of_cell hc, (fx.nv _ _ hs1).2.1⟩
  clear hK K hc
  try walk_nrm
  refine Goes.stop (fun w hr => ?_)
  exact ⟨rfl, (wb_rl fx hq hF hr).1, _, (wb_rl fx hq hF hr).2⟩
end

/-! ### NwC -/
section
open Go Go.Conc Go.RowKit Go.ConcR.Gen Cw

/-- At the receive in a yield. -/
noncomputable def atR (bs cr cp b1 b2 ev bi : Nat) (s : ByteArray) (cs : List Frame) : Goroutine :=
  G ((base 41).at ⟨#[.string s, pb b2, pb b1, undef, recF ev bi, .string s, .tuple #[], pb bs, pb bs, .pointer (some ⟨bs, 1, none⟩), .chan (some cp), pb bs, pb bs, pb bs, .chan (some cr), undef], []⟩ [.inRegion (opsOf (rt (rt bodyY))) [4]]) cs
theorem atY_send (bs cp b1 b2 ev bi : Nat) (s : ByteArray) (cs : List Frame) (w : World) : stepG Try.prog false (atY bs cp b1 b2 ev bi s cs) w = .comm (atY bs cp b1 b2 ev bi s cs) #[scase cp (.bool false) (.tuple #[])] true .send w #[] := by
  unfold atY
  simp only [bodyY, lf, rt, opsOf, Try.f41, Option.getD_some]
  refine (stepG_comm rfl rfl (by k_ne) (w' := w) (cases := #[scase cp (.bool false) (.tuple #[])]) (blocking := true) (shape := .send) ?_).trans ?_
  · simp [go_sem, execOp, scase, Act.eval]
  · rw [listed_nil (by simp [go_sem, execOp, Act.eval])]

set_option maxRecDepth 100000 in
theorem y_back (bw bt ev bi bs cr cp b1 b2 : Nat) (tv : Value) (i : Int) {L : Addr → Value → Prop} (hsub : ∀ a v, Lean2 bw bt ev bi bs cr cp b1 b2 tv i a v → L a v) (s : ByteArray) (cs : List Frame) (home : Hm) (hh : home (atR bs cr cp b1 b2 ev bi s cs) L) :
    Cw.Way Try.prog BxW false cr (.agg #[]) home 20 L (Go.Conc.served (atY bs cp b1 b2 ev bi s cs) undef) := by
  have hb2 : L ⟨b2, 0, none⟩ (recF ev bi) := hsub _ _ (.inr ⟨rfl, rfl⟩)
  have hb1 : L ⟨b1, 0, none⟩ (pb bs) := hsub _ _ (.inl (.inr ⟨rfl, rfl⟩))
  have hs0 : L ⟨bs, 0, none⟩ (.chan (some cr)) := hsub _ _ (.inl (.inl (.inr (.inr (.inr (.inl ⟨rfl, rfl⟩))))))
  have hs1 : L ⟨bs, 1, none⟩ (.chan (some cp)) := hsub _ _ (.inl (.inl (.inr (.inr (.inr (.inr ⟨rfl, rfl⟩))))))
  unfold atY
  rw [served_fr, Frame.finish_at]
  simp only [bodyY, lf, rt, opsOf, Try.f41, Option.getD_some]
  walk_nrm
  refine Cw.Way.goes rfl (fun w hw => ?_)
  rw [stepG_region_end]
  simp only [goes_go]
  refine .inl ⟨by trivial, by simp, ?_⟩
  refine Cw.Way.goes rfl (fun w hw => ?_)
  rw [stepG_region]
  simp only [goes_go, List.size_toArray, List.length_cons, List.length_nil, Nat.reduceAdd, Nat.zero_add, List.range, List.range.loop]
  refine .inl ⟨by trivial, by simp, ?_⟩
  refine Cw.Way.goes rfl (fun w hw => ?_)
  have hl := hb1
  have hc := hw _ _ hl
  refine goes_oper_k rfl rfl (by k_ne) (fun K hK => ?_)
  go_simp
  refine hK _ _ (.inl ⟨rfl, ?_, ?_⟩)
  · intro e he
    have hm := mem_listed he
    simp [go_sem, *] at hm
    exact ⟨_, _, hm, hl⟩
  clear hK K hc hl
  try walk_nrm
  refine Cw.Way.goes rfl (fun w hw => ?_)
  refine goes_oper_k rfl rfl (by k_ne) (fun K hK => ?_)
  go_simp
  refine hK _ _ (.inl ⟨rfl, ?_, ?_⟩)
  · rw [listed_nil (by simp [go_sem])]; simp
  clear hK K
  try walk_nrm
  refine Cw.Way.goes rfl (fun w hw => ?_)
  refine goes_oper_k rfl rfl (by k_ne) (fun K hK => ?_)
  go_simp
  refine hK _ _ (.inl ⟨rfl, ?_, ?_⟩)
  · rw [listed_nil (by simp [go_sem])]; simp
  clear hK K
  try walk_nrm
  refine Cw.Way.goes rfl (fun w hw => ?_)
  have hl := hs0
  have hc := hw _ _ hl
  refine goes_oper_k rfl rfl (by k_ne) (fun K hK => ?_)
  go_simp
  refine hK _ _ (.inl ⟨rfl, ?_, ?_⟩)
  · intro e he
    have hm := mem_listed he
    simp [go_sem, *] at hm
    exact ⟨_, _, hm, hl⟩
  clear hK K hc hl
  try walk_nrm
  refine Cw.Way.stop (atS_of rfl rfl (by k_ne) (fun w => ?_) (fun w => ?_) hh)
  · simp [go_sem, execOp, rcase, Act.eval]
  · simp [go_sem, execOp, Act.eval]

set_option maxRecDepth 100000 in
/-- Served there, the worker goes back to its task. -/
theorem y_on {R : World → World → Prop} {X : Cx} {Stop : Goroutine → World → Prop} {m : Nat} (hT : ∀ a b c, R a b → R b c → R a c) (bs cr cp b1 b2 ev bi : Nat) (s : ByteArray) (v : Value) {b₀ : Frame} {a₀ : Act} {ops : Array Oper} {j : Nat} {rest : List Nat} {k : List Item} (cs : List Frame) (w : World)
    (hF : Goes Try.prog false R (HDq X) Stop m (G (b₀.at (a₀.put ((ops[j]?).bind (·.dst)) (.tuple #[])) (.inRegion ops rest :: k)) cs) w) :
    Goes Try.prog false R (HDq X) Stop (m + 3) (Go.Conc.served (atR bs cr cp b1 b2 ev bi s (b₀.at a₀ (.inRegion ops (j :: rest) :: k) :: cs)) v) w := by
  have hRt : ∀ {w w' : World}, Goes Try.prog false R (HDq X) Stop m (G (b₀.at (a₀.put ((ops[j]?).bind (·.dst)) (.tuple #[])) (.inRegion ops rest :: k)) cs) w → R w w' → Goes Try.prog false R (HDq X) Stop m (G (b₀.at (a₀.put ((ops[j]?).bind (·.dst)) (.tuple #[])) (.inRegion ops rest :: k)) cs) w' := fun h r => h.rely hT r
  unfold atR
  rw [served_fr, Frame.finish_at]
  simp only [bodyY, rt, opsOf, Try.f41, Option.getD_some]
  walk_nrm
  refine Goes.step rfl (fun w hr => ?_)
  replace hF := hRt hF hr
  clear hr
  rw [stepG_region_end]
  simp only [goes_go]
  refine ⟨hdq_idle _ _, ?_⟩
  refine Goes.step rfl (fun w hr => ?_)
  replace hF := hRt hF hr
  clear hr
  rw [stepG_end]
  simp only [goes_go]
  refine ⟨hdq_idle _ _, ?_⟩
  refine Goes.step rfl (fun w hr => ?_)
  replace hF := hRt hF hr
  clear hr
  refine goes_leave0 rfl rfl Try.func41 rfl ⟨hdq_idle _ _, ?_⟩
  exact hF
end
end Go.Proofs.Ytggfcdhkgldbfaa
