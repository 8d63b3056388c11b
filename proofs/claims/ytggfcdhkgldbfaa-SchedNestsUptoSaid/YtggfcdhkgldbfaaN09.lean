/-
  PARTS of a claim, merged by segs.py: NwA, NwQ.
-/
import Derived.Test.YtggfcdhkgldbfaaN08
import Derived.Laws.AppendOwn
import Derived.Conc.AppendEvents3
import Derived.Conc.AppendWalk
namespace Go.Proofs.Ytggfcdhkgldbfaa
set_option linter.unusedSimpArgs false
set_option linter.unusedVariables false

/-! ### NwA -/
section
open Go Go.Conc Go.RowKit Go.ConcR.Gen Cw

/-- A pointer to a block's beginning. -/
abbrev pb (b : Nat) : Value := .pointer (some ⟨b, 0, none⟩)
noncomputable def bot : Frame := { (default : Frame) with fn := Try.prog.funcs.size, defers := [], mode := .panicking [goexitEntry] }
noncomputable def body3 : Code := Try.f19.body.getD .skip
noncomputable def bodyR : Code := Try.f21.body.getD .skip
def callW (wg bw bt ev bi : Nat) : Deferred := { target := .fn (.func 19) #[pb wg, pb bw, pb bt, pb ev, pb bi], args := #[] }

theorem born_step (wg bw bt ev bi : Nat) (w : World) : stepG Try.prog false (born Try.prog (callW wg bw bt ev bi)) w =
    .go (G ((baseD 19).at ⟨#[pb wg, pb bw, pb bt, pb ev, pb bi, undef, undef, undef, undef], []⟩ [.code body3]) [bot]) w #[] := by
  simp [born, callW, stepG, unwind, callDeferred, invoke, callFunc, Try.func19, Try.f19, seen, GStep.after, G, Frame.enter, Frame.at, baseD, bot, body3]

/-- The deferred call of a function value. -/
theorem stepG_deferC {P : Program} {main : Bool} {b : Frame} {a : Act} {k : List Item} {cs : List Frame} {w : World} {ops : Array Oper} {i : Nat} {rest : List Nat} {o : Oper} {v : Operand} {f : FuncId} {cap : Array Value} (ho : ops[i]? = some o) (hw : Region.wanted o (yielded ops a.tmps) = true) (hk : b.kind ≠ .early)
    (hop : o.op = .defer { callee := .value v, args := #[], argTypes := #[] }) (hv : a.eval v = .func (.func f) #[] cap) :
    stepG P main (G (b.at a (.inRegion ops (i :: rest) :: k)) cs) w = .go (G (b.at (Act.put ⟨a.tmps, { target := .fn (.func f) cap, args := #[] } :: a.defers⟩ o.dst undef) (.inRegion ops rest :: k)) cs) w #[] := by
  have hr : (execOp a.eval o).run P w = .ok (.defer { target := .fn (.func f) cap, args := #[] }) w := by
    unfold execOp
    simp [hop, resolve, Deferred.ofValue, hv]
  have he : (execOp a.eval o).events P w #[] = #[] := by
    unfold execOp
    simp [hop, resolve, Deferred.ofValue, hv]
  have hfin : (b.at ⟨a.tmps, { target := .fn (.func f) cap, args := #[] } :: a.defers⟩ (.inRegion ops (i :: rest) :: k)).finish undef = b.at (Act.put ⟨a.tmps, { target := .fn (.func f) cap, args := #[] } :: a.defers⟩ o.dst undef) (.inRegion ops rest :: k) := by rw [Frame.finish_at, ho]; rfl
  have hk' : (b.kind == CallKind.early) = false := by simpa using hk
  rw [stepG_oper ho hw, ← hfin]
  simp [stepG.apply, hr, he, G, Frame.at, hk', GStep.after, seen_none]

/-- What worker number i leans on: bw, bt, bi: main's variables w, t, i; bs: its own record; cr, cp: its channels. -/
def Lean0 (bw bt bi bs cr cp : Nat) (tv : Value) (i : Int) : Addr → Value → Prop := fun a v =>
  (a = ⟨bw, 0, none⟩ ∧ v = pb bs) ∨ (a = ⟨bt, 0, none⟩ ∧ v = tv) ∨ (a = ⟨bi, 0, none⟩ ∧ v = .int .i64 i) ∨ (a = ⟨bs, 0, none⟩ ∧ v = .chan (some cr)) ∨ (a = ⟨bs, 1, none⟩ ∧ v = .chan (some cp))
/-- What a worker writes to its own boxes. -/
def BxW1 (v : Value) (ty : TypeId) : Prop := ty = 74 ∨ (ty = 67 ∧ v ≠ .pointer none)
/-- .. and an adder's own copy. -/
def BxW (cs : Array Value) (ty : TypeId) : Prop := (∃ v, cs = #[v] ∧ BxW1 v ty) ∨ ty = 48
def recF (ev bi : Nat) : Value := .func (.func 22) #[] #[pb ev, pb bi]
def dF (b1 : Nat) : Deferred := { target := .fn (.func 40) #[pb b1], args := #[] }
/-- Its outermost frame, while it runs. -/
noncomputable def fr3 (wg bw bt ev bi bs : Nat) (tv : Value) : Frame := (baseD 19).at ⟨#[pb wg, pb bw, pb bt, pb ev, pb bi, pb bs, tv, recF ev bi, undef], [dcall 20 [pb wg].toArray]⟩ [.inRegion (opsOf (rt body3)) [3]]
/-- At the first receive. -/
noncomputable def at1 (wg bw bt ev bi bs cr b1 b2 : Nat) (tv : Value) : Goroutine :=
  G ((base 21).at ⟨#[pb bs, tv, recF ev bi, pb b1, undef, pb b2, .func (.func 40) #[] #[pb b1], pb bs, pb bs, pb bs, .chan (some cr), undef, undef, undef, undef], [dF b1]⟩ [.inRegion (opsOf (lf (rt (rt bodyR)))) [4], .code (rt (rt (rt bodyR)))]) [fr3 wg bw bt ev bi bs tv, bot]

set_option maxRecDepth 100000 in
theorem w_birth (wg bw bt ev bi bs cr cp : Nat) (tv : Value) (i : Int) (home : Hm) (hh : ∀ b1 b2, home (at1 wg bw bt ev bi bs cr b1 b2 tv) (plus (plus (Lean0 bw bt bi bs cr cp tv i) b1 (pb bs)) b2 (recF ev bi))) :
    ∃ n, Cw.Way Try.prog BxW false cr (.agg #[]) home n (Lean0 bw bt bi bs cr cp tv i) (born Try.prog (callW wg bw bt ev bi)) := by
  refine ⟨40, ?_⟩
  refine Cw.Way.goes rfl (fun w hw => ?_)
  rw [born_step]
  simp only [goes_go]
  refine .inl ⟨by trivial, by simp, ?_⟩
  simp only [body3, Try.f19, Option.getD_some]
  refine Cw.Way.goes rfl (fun w hw => ?_)
  rw [stepG_seq]
  simp only [goes_go]
  refine .inl ⟨by trivial, by simp, ?_⟩
  refine Cw.Way.goes rfl (fun w hw => ?_)
  rw [stepG_region]
  simp only [goes_go, List.size_toArray, List.length_cons, List.length_nil, Nat.reduceAdd, Nat.zero_add, List.range, List.range.loop]
  refine .inl ⟨by trivial, by simp, ?_⟩
  refine Cw.Way.goes rfl (fun w hw => ?_)
  rw [stepG_defer rfl rfl (by k_ne) rfl]
  simp only [goes_go]
  refine .inl ⟨by trivial, by simp, ?_⟩
  walk_nrm
  refine Cw.Way.goes rfl (fun w hw => ?_)
  rw [stepG_region_end]
  simp only [goes_go]
  refine .inl ⟨by trivial, by simp, ?_⟩
  refine Cw.Way.goes rfl (fun w hw => ?_)
  rw [stepG_region]
  simp only [goes_go, List.size_toArray, List.length_cons, List.length_nil, Nat.reduceAdd, Nat.zero_add, List.range, List.range.loop]
  refine .inl ⟨by trivial, by simp, ?_⟩
  refine Cw.Way.goes rfl (fun w hw => ?_)
  have hl := (.inl ⟨rfl, rfl⟩ : Lean0 bw bt bi bs cr cp tv i ⟨bw, 0, none⟩ (pb bs))
  have hc := hw _ _ hl
  refine goes_oper_k rfl rfl (by k_ne) (fun K hK => ?_)
  go_simp
  refine hK _ _ (.inl ⟨rfl, ?_, ?_⟩)
  · intro e he
    have hm := mem_listed he
    simp [go_sem, *] at hm
    exact ⟨_, _, hm, hl⟩
  clear hK K hc hl
  try walk_nrm
  refine Cw.Way.goes rfl (fun w hw => ?_)
  have hl := (.inr (.inl ⟨rfl, rfl⟩) : Lean0 bw bt bi bs cr cp tv i ⟨bt, 0, none⟩ tv)
  have hc := hw _ _ hl
  refine goes_oper_k rfl rfl (by k_ne) (fun K hK => ?_)
  go_simp
  refine hK _ _ (.inl ⟨rfl, ?_, ?_⟩)
  · intro e he
    have hm := mem_listed he
    simp [go_sem, *] at hm
    exact ⟨_, _, hm, hl⟩
  clear hK K hc hl
  try walk_nrm
  refine Cw.Way.goes rfl (fun w hw => ?_)
  refine goes_oper_k rfl rfl (by k_ne) (fun K hK => ?_)
  go_simp
  refine hK _ _ (.inl ⟨rfl, ?_, ?_⟩)
  · rw [listed_nil (by simp [go_sem])]; simp
  clear hK K
  try walk_nrm
  refine Cw.Way.goes rfl (fun w hw => ?_)
  refine goes_call rfl rfl (by k_ne) rfl Try.func21 rfl rfl ?_
  refine .inl ⟨by trivial, by simp, ?_⟩
  simp only [Try.ntmps21, Try.f21, Option.getD_some, List.size_toArray, List.length_cons, List.length_nil, Nat.reduceAdd, Nat.reduceSub, Array.replicate_succ, Array.replicate_zero, List.push_toArray, List.append_toArray, List.nil_append, List.cons_append]
  walk_nrm
  refine Cw.Way.goes rfl (fun w hw => ?_)
  rw [stepG_seq]
  simp only [goes_go]
  refine .inl ⟨by trivial, by simp, ?_⟩
  refine Cw.Way.goes rfl (fun w hw => ?_)
  rw [stepG_region]
  simp only [goes_go, List.size_toArray, List.length_cons, List.length_nil, Nat.reduceAdd, Nat.zero_add, List.range, List.range.loop]
  refine .inl ⟨by trivial, by simp, ?_⟩
  refine Cw.Way.goes rfl (fun w hw => ?_)
  refine goes_oper_k rfl rfl (by k_ne) (fun K hK => ?_)
  go_simp
  refine hK _ _ (.inr ⟨_, _, rfl, ?_, ⟨.inl ⟨_, rfl, .inr ⟨rfl, by simp⟩⟩, by intro k n; simp⟩, ?_⟩)
  · rw [listed_nil (by simp [go_sem])]
  clear hK K
  try walk_nrm
  generalize w.heap.size = b1
  refine Cw.Way.goes rfl (fun w hw => ?_)
  refine goes_oper_k rfl rfl (by k_ne) (fun K hK => ?_)
  go_simp
  refine hK _ _ (.inr ⟨_, _, rfl, ?_, ⟨.inl ⟨_, rfl, .inl rfl⟩, by intro k n; simp [recF]⟩, ?_⟩)
  · rw [listed_nil (by simp [go_sem])]
  clear hK K
  try walk_nrm
  generalize w.heap.size = b2
  refine Cw.Way.goes rfl (fun w hw => ?_)
  rw [stepG_region_end]
  simp only [goes_go]
  refine .inl ⟨by trivial, by simp, ?_⟩
  refine Cw.Way.goes rfl (fun w hw => ?_)
  rw [stepG_seq]
  simp only [goes_go]
  refine .inl ⟨by trivial, by simp, ?_⟩
  refine Cw.Way.goes rfl (fun w hw => ?_)
  rw [stepG_region]
  simp only [goes_go, List.size_toArray, List.length_cons, List.length_nil, Nat.reduceAdd, Nat.zero_add, List.range, List.range.loop]
  refine .inl ⟨by trivial, by simp, ?_⟩
  refine Cw.Way.goes rfl (fun w hw => ?_)
  refine goes_oper_k rfl rfl (by k_ne) (fun K hK => ?_)
  go_simp
  refine hK _ _ (.inl ⟨rfl, ?_, ?_⟩)
  · rw [listed_nil (by simp [go_sem])]; simp
  clear hK K
  try walk_nrm
  refine Cw.Way.goes rfl (fun w hw => ?_)
  rw [stepG_deferC rfl rfl (by k_ne) rfl rfl]
  simp only [goes_go]
  refine .inl ⟨by trivial, by simp, ?_⟩
  try walk_nrm
  refine Cw.Way.goes rfl (fun w hw => ?_)
  rw [stepG_region_end]
  simp only [goes_go]
  refine .inl ⟨by trivial, by simp, ?_⟩
  refine Cw.Way.goes rfl (fun w hw => ?_)
  rw [stepG_seq]
  simp only [goes_go]
  refine .inl ⟨by trivial, by simp, ?_⟩
  refine Cw.Way.goes rfl (fun w hw => ?_)
  rw [stepG_region]
  simp only [goes_go, List.size_toArray, List.length_cons, List.length_nil, Nat.reduceAdd, Nat.zero_add, List.range, List.range.loop]
  refine .inl ⟨by trivial, by simp, ?_⟩
  refine Cw.Way.goes rfl (fun w hw => ?_)
  have hl := (.inl (.inr ⟨rfl, rfl⟩) : plus (plus (Lean0 bw bt bi bs cr cp tv i) b1 (pb bs)) b2 (recF ev bi) ⟨b1, 0, none⟩ (pb bs))
  have hc := hw _ _ hl
  refine goes_oper_k rfl rfl (by k_ne) (fun K hK => ?_)
  go_simp
  refine hK _ _ (.inl ⟨rfl, ?_, ?_⟩)
  · intro e he
    have hm := mem_listed he
    simp [go_sem, *] at hm
    exact ⟨_, _, hm, hl⟩
  clear hK K hc hl
  try walk_nrm
  refine Cw.Way.goes rfl (fun w hw => ?_)
  refine goes_oper_k rfl rfl (by k_ne) (fun K hK => ?_)
  go_simp
  refine hK _ _ (.inl ⟨rfl, ?_, ?_⟩)
  · rw [listed_nil (by simp [go_sem])]; simp
  clear hK K
  try walk_nrm
  refine Cw.Way.goes rfl (fun w hw => ?_)
  refine goes_oper_k rfl rfl (by k_ne) (fun K hK => ?_)
  go_simp
  refine hK _ _ (.inl ⟨rfl, ?_, ?_⟩)
  · rw [listed_nil (by simp [go_sem])]; simp
  clear hK K
  try walk_nrm
  refine Cw.Way.goes rfl (fun w hw => ?_)
  have hl := (.inl (.inl (.inr (.inr (.inr (.inl ⟨rfl, rfl⟩))))) : plus (plus (Lean0 bw bt bi bs cr cp tv i) b1 (pb bs)) b2 (recF ev bi) ⟨bs, 0, none⟩ (.chan (some cr)))
  have hc := hw _ _ hl
  refine goes_oper_k rfl rfl (by k_ne) (fun K hK => ?_)
  go_simp
  refine hK _ _ (.inl ⟨rfl, ?_, ?_⟩)
  · intro e he
    have hm := mem_listed he
    simp [go_sem, *] at hm
    exact ⟨_, _, hm, hl⟩
  clear hK K hc hl
  try walk_nrm
  refine Cw.Way.stop (atS_of rfl rfl (by k_ne) (fun w => ?_) (fun w => ?_) (hh b1 b2))
  · simp [go_sem, execOp, rcase, Act.eval]
  · simp [go_sem, execOp, Act.eval]
end

/-! ### NwQ -/
section
namespace Cw
open Go Go.Conc
open Go.ConcN (WgLive)
open Go.ConcR (WgAt)

/-- Nobody leans on block b, nobody turns it, it is no channel's, no group's. -/
structure Ok (X : Cx) (V : Nat → Prop) (b : Nat) : Prop where
  nv : ¬ V b
  st : ∀ a, a.block = b → ¬ X.St a
  sh : ∀ a : Addr, a.block = b → ¬ X.Sh (.cell a)
  ch : ¬ X.Ch b
  wg : ∀ x, X.on x → x ≠ b
  ex : ¬ X.Lo b
/-- What is fixed lies below B; what is made from B on is the maker's. -/
structure Floor (X : Cx) (V : Nat → Prop) (B : Nat) : Prop where
  st : ∀ a, X.St a → a.block < B
  ch : ∀ c, X.Ch c → c < B
  wg : ∀ x, X.on x → x < B
  sh : ∀ a, X.Sh (.cell a) → a.block < B
  v : ∀ b, V b → b < B
  ex : ∀ b, X.Lo b → b < B
theorem Floor.ok {X : Cx} {V : Nat → Prop} {B : Nat} (F : Floor X V B) {b : Nat} (hb : B ≤ b) : Ok X V b :=
  ⟨fun h => by have := F.v b h; omega, fun a e h => by have := F.st a h; omega, fun a e h => by have := F.sh a h; omega, fun h => by have := F.ch b h; omega, fun x o e => by have := F.wg x o; omega, fun h => by have := F.ex b h; omega⟩

section
variable {X : Cx} {V : Nat → Prop} {B : Nat} {w w' : World}
theorem Ok.same {b : Nat} (h : Ok X V b) (E : Ext V w w') (hb : b < w.heap.size) : w'.heap[b]? = w.heap[b]? := E.same b hb h.nv
theorem Ok.cell {a : Addr} {v : Value} (h : Ok X V a.block) (E : Ext V w w') (hc : w.cell? a = some v) : w'.cell? a = some v := by
  rw [cell_of_block (h.same E (block_of_cell hc))]; exact hc
theorem ownsRow_ext {base size n : Nat} {e : TypeId} {v : Value} {xs : List Value} (h : w.ownsRow base e size v n xs) (E : Ext V w w') (hv : ∀ g, v.ownBlock = some g → ¬ V g) : w'.ownsRow base e size v n xs := by
  refine ⟨h.1, ?_⟩
  rcases h.2 with hn | ⟨g, cap, cur, rfl, hb, hgg, rest⟩
  · exact .inl hn
  · exact .inr ⟨g, cap, cur, rfl, hb, (E.same g (Array.getElem?_eq_some_iff.1 hgg).1 (hv g rfl)).trans hgg, rest⟩

/-- A cell of the token's is written. -/
theorem Ok.write {a : Addr} {v : Value} {es : Array Event} (h : Ok X V a.block) (hlt : a.block < w.heap.size) (hbx : ¬ BoxAt X w a.block) (hes : ∀ e ∈ es, e = ⟨.cell a, true, false⟩) : HDq X w (w.setCell a v) es :=
  hdq_write (h.st a rfl) hbx (fun _ hc e => h.ch (e ▸ hc)) h.wg (h.sh a rfl) hlt (fun a' ha' => cell_of_block (heap_setCell_ne w a v fun e => h.st a' e ha')) hes
/-- A slice of the token's grows. -/
theorem hdq_grown {row : Option Nat} {es : Array Event} (F : Floor X V B) (hB : B ≤ w.heap.size) (hg : w.grownBy w' row) (hrow : ∀ g, row = some g → Ok X V g ∧ ¬ BoxAt X w g)
    (hes : ∀ e ∈ es, (∃ a : Addr, e.loc = .cell a ∧ a.block < w'.heap.size ∧ ¬ X.Sh (.cell a) ∧ (e.write = true → ¬ Prot X w a)) ∨ e = ⟨.mark .noRoom, false, true⟩) : HDq X w w' es := by
  have keep : ∀ b, b < B ∨ BoxAt X w b → (∀ g, row = some g → b ≠ g) → w'.heap[b]? = w.heap[b]? := fun b hb hne => by
    refine hg.block b ?_ (fun e => hne b e.symm rfl)
    rcases hb with hb | ⟨v, ty, hv, _⟩
    · omega
    · exact (Array.getElem?_eq_some_iff.1 hv).1
  refine ⟨⟨⟨hg.size, fun a ha => cell_of_block (keep _ (.inl (F.st a ha)) fun g e e' => (hrow g e).1.st a e' ha), fun b hb => keep b (.inr hb) fun g e e' => (hrow g e).2 (e' ▸ hb), fun b o ⟨st, sm, hw⟩ => ⟨st, sm, ?_⟩, hg.os, hg.output⟩,
    fun c hc => keep c (.inl (F.ch c hc)) fun g e e' => (hrow g e).1.ch (e' ▸ hc), fun b o => keep _ (.inl (F.wg b o)) fun g e e' => (hrow g e).1.wg b o e', fun e he => ?_⟩, fun e he => ?_⟩
  · unfold WgAt at hw ⊢
    rw [keep _ (.inl (F.wg b o)) fun g e e' => (hrow g e).1.wg b o e']
    exact hw
  · rcases hes e he with ⟨a, e1, h1, h2, h3⟩ | rfl
    · obtain ⟨l, wr, sy⟩ := e
      simp only at e1
      subst e1
      refine ⟨fun x hx => ?_, fun a' => by simp, ?_⟩
      · cases wr <;> cases sy <;> simp only [MemAct.ofEvent, MemAct.touch?, Option.some.injEq] at hx <;> subst hx
        · exact ⟨fun hS => absurd hS h2, fun hw => by cases hw⟩
        · exact ⟨fun hS => absurd hS h2, fun hw => by cases hw⟩
        · exact ⟨fun hS => absurd hS h2, fun _ a' ea => by obtain rfl := Loc.cell.inj ea; exact h3 rfl⟩
        · exact ⟨fun hS => absurd hS h2, fun _ a' ea => by obtain rfl := Loc.cell.inj ea; exact h3 rfl⟩
      · cases wr <;> cases sy <;> exact h1
    · exact ⟨fun x hx => by simp [MemAct.ofEvent, MemAct.touch?] at hx, fun a' => by simp, trivial⟩
  · rcases hes e he with ⟨a, e1, _⟩ | rfl
    · exact ⟨by rw [e1]; simp, by rw [e1]; simp⟩
    · exact ⟨by simp, by simp⟩

theorem run_append_op {P : Program} {o : Oper} {a : Act} {v xv v' : Value} (s x : Operand) (t : TypeId)
    (ho : o.op = .call { callee := .builtin .append, args := #[s, x], argTypes := #[t, t] }) (hs : a.eval s = v) (hx : a.eval x = xv)
    (hr : (Builtin.append_ #[t, t] o.type #[v, xv]).run P w = .ok v' w') : (execOp a.eval o).run P w = .ok (.value v') w' := by
  unfold execOp
  simp only [ho, resolve, invoke, builtin, Sem.run_bind, Sem.run_pure, Result.andThen_ok, List.map_toArray, List.map_cons, List.map_nil, hs, hx, hr]

/-- Where the grown slice lies. -/
theorem append_where {P : Program} (base : Nat) (t ty e : TypeId) (i : TypeInfo) (z : Value) (size bytes : Nat) (ht : P.underlying t = some (.slice e)) (hi : P.info? e = some i) (hz : i.zero = some z)
    (hsize : i.size = size) (hby : i.bytes = bytes) (v : Value) (n : Nat) (xs : List Value) (hown : w.ownsRow base e size v n xs)
    (a : Addr) (m c : Nat) (news : List Value) (hm : 0 < m) (hl : news.length = m * size) (hnews : ∀ j u, news[j]? = some u → w.cell? (a.add j) = some u) (h1 : ∀ u ∈ news, u.oneCell' = true)
    (h63 : n + m ≤ maxLen) (hbytes : (n + m) * bytes ≤ 140737488355328) {v' : Value} {w' : World} (hr : (Builtin.append_ #[t, t] ty #[v, .slice (some a) m c]).run P w = .ok v' w') :
    v'.ownBlock = v.ownBlock ∨ v'.ownBlock = some w.heap.size := by
  subst hsize
  subst hby
  have hsmall : n + m ≤ 9223372036854775807 := by simp only [maxLen] at h63; omega
  rcases hown.2 with ⟨rfl, rfl⟩ | ⟨g, cap, cur, rfl, hbg, hg, hnc, hcm, hcs, htake⟩
  · rw [run_append_nil (P := P) w t ty e i z ht hi hz a m c news hl hnews (by omega) (by omega) (by have hb := hbytes; simp only [Nat.zero_add] at hb; omega)] at hr
    cases hr
    exact .inr rfl
  · by_cases hroom : n + m ≤ cap
    · have hfit : n * i.size + news.length ≤ cur.size := by rw [hl, hcs, ← Nat.add_mul]; exact Nat.mul_le_mul_right _ hroom
      rw [run_append_room (P := P) w t ty e i ht hi g n cap cur hg a m c news hl hnews h1 hroom hfit] at hr
      cases hr
      exact .inl rfl
    · have holds : ∀ j u, xs[j]? = some u → w.cell? ((⟨g, 0, none⟩ : Addr).add j) = some u := hown.cells (g := g) rfl
      rw [run_append_grow (P := P) w t ty e i z ht hi hz ⟨g, 0, none⟩ n cap xs hown.1 holds a m c news hl hnews (by omega) (by omega) (growslice_fits (by omega) hbytes)] at hr
      cases hr
      exact .inr rfl

/-- An append to a slice of the token's. -/
theorem goes_append {P : Program} {main : Bool} {R : World → World → Prop} {Stop : Goroutine → World → Prop} {N : Nat} (F : Floor X V B) (hB : B ≤ w.heap.size) {b : Frame} {a : Act} {k : List Item} {cs : List Frame} {ops : Array Oper} {i : Nat} {rest : List Nat} {o : Oper}
    (ho : ops[i]? = some o) (hw : Region.wanted o (yielded ops a.tmps) = true) (hk : b.kind ≠ .early) (s x : Operand) (t : TypeId) (hop : o.op = .call { callee := .builtin .append, args := #[s, x], argTypes := #[t, t] })
    {base : Nat} {e : TypeId} {info : TypeInfo} {z : Value} {size bytes : Nat} (ht : P.underlying t = some (.slice e)) (hi : P.info? e = some info) (hz : info.zero = some z) (hsize : info.size = size) (hby : info.bytes = bytes) (hzs : z.cells.size = size) (hsz : 0 < size)
    {v : Value} {n : Nat} {xs : List Value} (hs : a.eval s = v) (hown : w.ownsRow base e size v n xs) {ad : Addr} {m c : Nat} {news : List Value} (hx : a.eval x = .slice (some ad) m c) (hm : 0 < m) (hl : news.length = m * size) (hnews : ∀ j u, news[j]? = some u → w.cell? (ad.add j) = some u)
    (h1 : ∀ u ∈ news, u.oneCell' = true) (h63 : n + m ≤ maxLen) (hbytes : (n + m) * bytes ≤ 140737488355328) (hbase : base ≤ w.heap.size) (hrow : ∀ g, v.ownBlock = some g → Ok X V g ∧ ¬ BoxAt X w g) (had : Ok X V ad.block ∧ ad.block < w.heap.size)
    (hnext : ∀ v' w', w'.ownsRow base e size v' (n + m) (xs ++ news) → w.grownBy w' v.ownBlock → (∀ g, v'.ownBlock = some g → Ok X V g) → Goes P main R (HDq X) Stop N (G (b.at (a.put o.dst v') (.inRegion ops rest :: k)) cs) w') :
    (stepG P main (G (b.at a (.inRegion ops (i :: rest) :: k)) cs) w).goes fun g' w' es => HDq X w w' es ∧ Goes P main R (HDq X) Stop N g' w' := by
  obtain ⟨v', w', hr, ho', hg, _⟩ := run_append_own w base t o.type e info z size bytes ht hi hz hsize hby hzs hsz v n xs hown ad m c news hl hnews h1 h63 hbytes hbase
  rw [stepG_value ho hw hk (run_append_op s x t hop hs hx hr), goes_go]
  refine ⟨hdq_grown F hB hg hrow fun ev hev => ?_, hnext v' w' ho' hg fun g hg' => ?_⟩
  · have hm' := mem_listed hev
    rw [events_append_op s x t hop hs hx] at hm'
    rcases events_append_where w base t o.type e info z size bytes ht hi hz hsize hby v n xs hown ad m c news hl hnews h1 h63 hbytes ev hm' with ⟨a', h2, h3⟩ | ⟨mk, rfl, hmk⟩
    · refine .inl ⟨a', h2, ?_⟩
      rcases h3 with ⟨h4, h5⟩ | h5
      · exact ⟨by rw [h5]; exact Nat.lt_of_lt_of_le had.2 hg.size, had.1.sh _ h5, fun e => by rw [h4] at e; cases e⟩
      · have hlt := (hown.lt _ h5.symm).2
        obtain ⟨h6, h7⟩ := hrow _ h5.symm
        exact ⟨Nat.lt_of_lt_of_le hlt hg.size, h6.sh _ rfl, fun _ hp => hp.elim (h6.st _ rfl) fun x => h7 x.2.2⟩
    · exact .inr (by rw [show mk = .noRoom from hmk])
  · rcases append_where base t o.type e info z size bytes ht hi hz hsize hby v n xs hown ad m c news hm hl hnews h1 h63 hbytes hr with h | h
    · exact (hrow g (by rw [← h]; exact hg')).1
    · rw [h] at hg'; obtain rfl := Option.some.inj hg'; exact F.ok hB
end

section
variable {P : Program} {main : Bool} {b : Frame} {a : Act} {k : List Item} {cs : List Frame} {w : World}
theorem run_callc_body {o : Oper} {v : Operand} {f : FuncId} {cap : Array Value} {fn : Func} {args : Array Operand} {ats : Array TypeId} (hop : o.op = .call { callee := .value v, args, argTypes := ats }) (hv : a.eval v = .func (.func f) #[] cap)
    (hf : P.funcs[f]? = some fn) (hname : (fn.name == "runtime.NumGoroutine") = false) (hb : fn.body.isNone = false) : (execOp a.eval o).run P w = .ok (.enter f (args.map a.eval ++ cap)) w ∧ (execOp a.eval o).events P w #[] = #[] := by
  have h1 : ¬ fn.name = "runtime.NumGoroutine" := by simpa using hname
  have h2 : ¬ fn.body = none := by cases hx : fn.body <;> simp_all
  unfold execOp
  simp [hop, resolve, Deferred.ofValue, invoke, callFunc, hf, h1, h2, hv]
/-- A function value is called. -/
theorem goes_callc {ops : Array Oper} {i : Nat} {rest : List Nat} {o : Oper} {K : Goroutine → World → Array Event → Prop} {v : Operand} {f : FuncId} {cap : Array Value} {fn : Func} {c : Code} {args : Array Operand} {ats : Array TypeId}
    (ho : ops[i]? = some o) (hw : Region.wanted o (yielded ops a.tmps) = true) (hk : b.kind ≠ .early) (hop : o.op = .call { callee := .value v, args, argTypes := ats }) (hv : a.eval v = .func (.func f) #[] cap)
    (hf : P.funcs[f]? = some fn) (hname : (fn.name == "runtime.NumGoroutine") = false) (hb : fn.body = some c)
    (h : K (G ((base f).at { tmps := (args.map a.eval ++ cap) ++ Array.replicate (fn.ntmps - (args.map a.eval ++ cap).size) undef, defers := [] } [.code c]) (b.at a (.inRegion ops (i :: rest) :: k) :: cs)) w #[]) :
    (stepG P main (G (b.at a (.inRegion ops (i :: rest) :: k)) cs) w).goes K := by
  have hb' : fn.body.isNone = false := by rw [hb]; rfl
  have hr := run_callc_body (w := w) hop hv hf hname hb'
  rw [stepG_enter ho hw hk hr.1, enter_at _ hf hb]
  have : listed P b.fn a o w = #[] := by unfold listed; rw [hr.2]; exact seen_none P _
  rw [this]
  exact h
end
end Cw
end
end Go.Proofs.Ytggfcdhkgldbfaa
