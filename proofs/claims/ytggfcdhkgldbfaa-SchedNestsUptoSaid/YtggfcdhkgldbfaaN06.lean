/-
  PARTS of a claim, merged by segs.py: NwX.
-/
import Derived.Test.YtggfcdhkgldbfaaN05
namespace Go.Proofs.Ytggfcdhkgldbfaa
set_option linter.unusedSimpArgs false
set_option linter.unusedVariables false

/-! ### NwX -/
section
namespace Cw
open Go Go.Conc
open Go.ConcN (sumTo upd upd_same upd_ne sumTo_upd sumTo_congr WgLive le_sumTo)
open Go.ConcR (KK wgBlock WgAt stA smA rd wr)

structure CrewD (P : Program) (X : Cx) (V : Nat → Prop) (h dh b0 : Nat) (B : Nat → By) (Rd : Nat → Loc → Prop) (cn : Nat → Nat) (T : Trace) (gs : Array Goroutine) (w : World) (q : Nat → Nat × Nat) (md : Md) : Prop where
  m : CrewM P X V h dh B Rd cn T gs w q (upd (fun _ => .norm 0) b0 md)
  on : X.on b0
  nos : ∀ i, i ≠ h → X.wg i = b0 → ∀ c z home, B i ≠ .seat c z home
  hch : X.wg h = b0 → cn h = 0
  vol : V b0

section
variable {P : Program} {X : Cx} {V : Nat → Prop} {h dh b0 : Nat} {B : Nat → By} {Rd : Nat → Loc → Prop} {cn : Nat → Nat} {T : Trace} {gs : Array Goroutine} {w : World} {q : Nat → Nat × Nat} {md : Md}
theorem CrewD.mok (C : CrewD P X V h dh b0 B Rd cn T gs w q md) : MdOk X h gs.size B cn w b0 md := by
  have := C.m.mdok b0 C.on
  rwa [upd_same] at this
/-- Into the frame of waiting. -/
theorem Crew.toD (C : Crew P X V h dh B Rd cn T gs w q) (o : X.on b0) (hv : V b0) (hns : ∀ i, i ≠ h → X.wg i = b0 → ∀ c z home, B i ≠ .seat c z home) (hch : X.wg h = b0 → cn h = 0) : CrewD P X V h dh b0 B Rd cn T gs w q (.norm 0) :=
  ⟨by rw [upd_hit _ rfl]; exact C, o, hns, hch, hv⟩
theorem CrewD.at (C : CrewD P X V h dh b0 B Rd cn T gs w q md) (d : Nat) : CrewD P X V h dh b0 B Rd cn T gs (w.at d) q md :=
  ⟨C.m.at d, C.on, C.nos, C.hch, C.vol⟩
/-- A group's cells lean on nobody. -/
theorem not_prot_wg {b : Nat} (hst : ∀ a, X.St a → ¬ X.on a.block) (o : X.on b) {st sm : Int} (hw : WgAt X.ty b w st sm) {a : Addr} (ha : a.block = b) : ¬ Prot X w a := by
  rintro (hp | ⟨_, _, x, ty, hx, _, _, hn⟩)
  · exact hst a hp (by rw [ha]; exact o)
  · rw [ha, hw] at hx
    simp only [wgBlock, Option.some.injEq, Obj.cells.injEq] at hx
    rw [← hx.1] at hn
    exact hn _ _ rfl
/-- A BYSTANDER's STEP. -/
theorem CrewD.by_step (C : CrewD P X V h dh b0 B Rd cn T gs w q md) {i : Nat} {g : Goroutine} {sl : Option (Nat × Nat)} (hi : gs[i]? = some g) (hih : i ≠ h) (hrun : g.status = .running) {a : Goroutine} (ha : gs[h]? = some a) (hO : ∀ c, offersAt a c true = []) :
    ∃ (gs' : Array Goroutine) (ops : Array MemOp) (w' : World) (q' : Nat → Nat × Nat) (Rd' : Nat → Loc → Prop) (B' : Nat → By) (cn' : Nat → Nat) (md' : Md) (a' : Goroutine),
      runT P (crowd gs w sl) i = (.next (crowd gs' w' sl), ops) ∧ gs'.size = gs.size ∧ (gs'[h]? = some a' ∧ (a' = a ∨ a' = a.again w')) ∧ Ext V w w' ∧ Env X w w' ∧ Later h B cn B' cn' ∧ CrewD P X V h dh b0 B' Rd' cn' (T ++ ops) gs' w' q' md' ∧ Less gs.size q' q ∧ (cn' = cn ∨ sumTo gs.size (fun i => (q' i).1) < sumTo gs.size (fun i => (q i).1)) ∧
      MdLe (sm X gs.size cn b0) (sm X gs.size cn' b0) md md' ∧ (md' = .sema → md ≠ .sema → a' = a.again w') := by
  obtain ⟨gs', ops, w', q', Rd', B', cn', md', a', h1, h2, h3, h4, h5, h6, h7, h8, h9, h10, h11, h12, h13, h14, h15⟩ := C.m.by_step (sl := sl) hi hih hrun ha (fun c z home g₂ L _ _ _ => hO c)
  have em : md' = upd (fun _ => .norm 0) b0 (md' b0) := by
    funext b
    by_cases eb : b = b0
    · subst eb; rw [upd_same]
    rw [upd_ne _ _ eb]
    by_cases o : X.on b
    · have := (h13 b o).2
      rw [upd_ne _ _ eb] at this
      cases e : md' b with
      | norm wt => rw [e] at this; rw [this.1]
      | last L s => rw [e] at this; cases this
      | sema => rw [e] at this; exact this.elim
      | fin => rw [e] at this; exact this.elim
    · rw [h14 b o, upd_ne _ _ eb]
  have hle := (h13 b0 C.on).2
  rw [upd_same] at hle
  refine ⟨gs', ops, w', q', Rd', B', cn', md' b0, a', h1, h2, h3, h5, h6, h7, ⟨by rw [← em]; exact h9, C.on, fun i hi hb c z home e => C.nos i hi hb c z home (h7.seat.1 e), fun e => by rw [h7.cn h (.inl rfl)]; exact C.hch e, C.vol⟩, h10, h12, hle, fun e1 e2 => h15 b0 e1 (by rw [upd_same]; exact e2)⟩
end
/-- What the waiting goroutine lists: atomic touches of the group's cells; words on them. -/
def EvA (Wg : Nat) (es : Array Event) : Prop := (∀ e ∈ es, (∃ a x, e = ⟨.cell a, x, true⟩ ∧ a.block = Wg) ∨ ∃ a, (e = Go.ConcR.mk (.read a) ∨ e = Go.ConcR.mk (.write a)) ∧ a.block = Wg) ∨ es = semEvents (smA Wg)

theorem evA_nil (Wg : Nat) : EvA Wg #[] := .inl fun e he => by simp at he
section
variable (P : Program) (mn : Bool) (ty : TypeId) (Wg : Nat) (Anch Fin : Goroutine → World → Prop)
/-- At the load behind the semaphore. -/
def W4 (g : Goroutine) (w : World) : Prop := g.status = .running ∧ (WgAt ty Wg w 0 0 → ∃ g' es, stepG P mn g w = .go g' w es ∧ EvA Wg es ∧ ∃ m, (Goes P mn (RLive ty Wg) D0) Fin m g' w)
/-- At the semaphore. -/
def W3 (g : Goroutine) (w : World) : Prop :=
  g.status = .running ∧ g.offers = none ∧ ((∃ st, WgAt ty Wg w st 0) → stepG P mn g w = .go { g with status := .blocked } w #[]) ∧
    (WgAt ty Wg w 0 1 → ∃ g' es, stepG P mn g w = .go g' (w.setCell (smA Wg) (.int .u32 0)) es ∧ EvA Wg es ∧ ∃ m, (Goes P mn (RLive ty Wg) D0) (W4 P mn ty Wg Fin) m g' (w.setCell (smA Wg) (.int .u32 0)))
/-- At the word on the semaphore. -/
def Wr (g : Goroutine) (w : World) : Prop := g.status = .running ∧ ∃ g' es, stepG P mn g w = .go g' w es ∧ EvA Wg es ∧ ∃ m, (Goes P mn (RLive ty Wg) D0) (W3 P mn ty Wg Fin) m g' w
/-- At the CompareAndSwap, 'vs' having been seen. -/
def W2 (vs : Nat) (g : Goroutine) (w : World) : Prop :=
  g.status = .running ∧ ∀ v : Nat, v < 2147483648 → WgAt ty Wg w ((v : Int) * KK) 0 →
    (v = vs → ∃ g' es, stepG P mn g w = .go g' (w.setCell (stA Wg) (.int .u64 ((v : Int) * KK + 1))) es ∧ EvA Wg es ∧ ∃ m, (Goes P mn (RLive ty Wg) D0) (Wr P mn ty Wg Fin) m g' (w.setCell (stA Wg) (.int .u64 ((v : Int) * KK + 1)))) ∧
    (v ≠ vs → ∃ g' es, stepG P mn g w = .go g' w es ∧ EvA Wg es ∧ ∃ m, (Goes P mn (RLive ty Wg) D0) Anch m g' w)
/-- At the load. -/
def W1 (g : Goroutine) (w : World) : Prop :=
  g.status = .running ∧ ∀ v : Nat, v < 2147483648 → WgAt ty Wg w ((v : Int) * KK) 0 → ∃ g' es, stepG P mn g w = .go g' w es ∧ EvA Wg es ∧
    (v = 0 → ∃ m, (Goes P mn (RLive ty Wg) D0) Fin m g' w) ∧ (v ≠ 0 → ∃ m, (Goes P mn (RLive ty Wg) D0) (W2 P mn ty Wg Anch Fin v) m g' w)

theorem offersAt_none {g : Goroutine} (h : g.offers = none) (c : Nat) (b : Bool) : offersAt g c b = [] := by
  unfold offersAt
  simp [h]
inductive Tag where
  | anch | w1 | w2 (vs : Nat) | wr | w3 | blk | w4 | fin
def SitAt (m : Nat) (g : Goroutine) (w : World) : Tag → Prop
  | .anch => (Goes P mn (RLive ty Wg) D0) Anch m g w
  | .w1 => (Goes P mn (RLive ty Wg) D0) (W1 P mn ty Wg Anch Fin) m g w
  | .w2 vs => (Goes P mn (RLive ty Wg) D0) (W2 P mn ty Wg Anch Fin vs) m g w
  | .wr => (Goes P mn (RLive ty Wg) D0) (Wr P mn ty Wg Fin) m g w
  | .w3 => (Goes P mn (RLive ty Wg) D0) (W3 P mn ty Wg Fin) m g w
  | .blk => m = 0 ∧ ∃ g0, (Goes P mn (RLive ty Wg) D0) (W3 P mn ty Wg Fin) 0 g0 w ∧ g0.status = .running ∧ g0.offers = none ∧ g = { g0 with status := .blocked }
  | .w4 => (Goes P mn (RLive ty Wg) D0) (W4 P mn ty Wg Fin) m g w
  | .fin => (Goes P mn (RLive ty Wg) D0) Fin m g w
end
def TagMd (n : Nat) : Tag → Md → Prop
  | .anch, .norm wt | .w1, .norm wt => wt = 0
  | .w2 vs, .norm wt => wt = 0 ∧ n ≤ vs ∧ 1 ≤ vs
  | .wr, .norm wt | .w3, .norm wt | .blk, .norm wt => wt = 1
  | .wr, .last _ _ | .w3, .last _ _ | .blk, .last _ _ => True
  | .wr, .sema | .w3, .sema => True
  | .w4, .fin | .fin, .fin => True
  | .fin, .norm wt => wt = 0 ∧ n = 0
  | _, _ => False
def tw (n : Nat) : Tag → Nat
  | .anch => 10
  | .w1 => 9
  | .w2 vs => if n = vs then 8 else 11
  | .wr => 7
  | .w3 | .blk => 6
  | .w4 => 5
  | .fin => 4
def hb (m : Nat) : Tag → Nat
  | .w3 => m + 1
  | .blk => 0
  | _ => m

section
variable {P : Program} {X : Cx} {V : Nat → Prop} {h dh b0 : Nat} {B : Nat → By} {Rd : Nat → Loc → Prop} {cn : Nat → Nat} {T : Trace} {gs : Array Goroutine} {w : World} {q : Nat → Nat × Nat} {md : Md} {mn : Bool} {Anch Fin : Goroutine → World → Prop}

theorem SitAt.rely {ty : TypeId} {Wg m : Nat} {g : Goroutine} {tag : Tag} {w' : World} (H : SitAt P mn ty Wg Anch Fin m g w tag) (r : RLive ty Wg w w') : SitAt P mn ty Wg Anch Fin m g w' tag := by
  cases tag with
  | blk => obtain ⟨h1, g0, h2, h3⟩ := H; exact ⟨h1, g0, h2.rely rlive_trans r, h3⟩
  | _ => exact Goes.rely rlive_trans H r

theorem goesW_run {ty : TypeId} {Wg m : Nat} {Stop : Goroutine → World → Prop} {g : Goroutine} {w : World} (hS : ∀ g w, Stop g w → g.status = .running) (hG : Goes P mn (RLive ty Wg) D0 Stop m g w) : g.status = .running := by
  cases m with
  | zero => exact hS _ _ (hG w id)
  | succ m => exact hG.elim (fun x => hS _ _ (x w id)) (·.1)

theorem goesW_cases' {ty : TypeId} {Wg m : Nat} {Stop : Goroutine → World → Prop} {g : Goroutine} {w : World} (hG : Goes P mn (RLive ty Wg) D0 Stop m g w) :
    (∀ w₁, RLive ty Wg w w₁ → Stop g w₁) ∨ ∃ k g' es, m = k + 1 ∧ stepG P mn g w = .go g' w es ∧ EvA Wg es ∧ Goes P mn (RLive ty Wg) D0 Stop k g' w := by
  cases m with
  | zero => exact .inl hG
  | succ k =>
    rcases hG with hs | ⟨_, hs⟩
    · exact .inl hs
    · have h1 := hs w id
      cases e : stepG P mn g w with
      | go g' w' es =>
        rw [e, goes_go] at h1
        obtain ⟨⟨e1, e2⟩, h2⟩ := h1
        subst e1 e2
        exact .inr ⟨k, g', #[], rfl, rfl, evA_nil Wg, h2⟩
      | _ => rw [e] at h1; exact h1.elim

/-- What such a step lists, entry by entry. -/
theorem evA_ops {Wg dh : Nat} {es : Array Event} (hes : EvA Wg es) : deafBehind dh es = dh ∧ ∀ e ∈ es, (∀ x, (MemAct.ofEvent e).touch? = some x → x.kind ≠ .plain) ∧ (∀ a, MemAct.ofEvent e ≠ .mark (.release a)) ∧ (∀ N, Wg < N → (MemAct.ofEvent e).low N) ∧ ∀ x, (MemAct.ofEvent e).touch? = some x → ∀ a, x.loc = .cell a → a.block = Wg := by
  have cellok : ∀ (a : Addr) (b : Bool), a.block = Wg → (∀ x, (MemAct.ofEvent ⟨.cell a, b, true⟩).touch? = some x → x.kind ≠ .plain) ∧ (∀ a', MemAct.ofEvent ⟨.cell a, b, true⟩ ≠ .mark (.release a')) ∧ (∀ N, Wg < N → (MemAct.ofEvent ⟨.cell a, b, true⟩).low N) ∧ ∀ x, (MemAct.ofEvent ⟨.cell a, b, true⟩).touch? = some x → ∀ a', x.loc = .cell a' → a'.block = Wg := by
    intro a b ha
    have : MemAct.ofEvent ⟨.cell a, b, true⟩ = .access ⟨.cell a, b, true⟩ := by cases b <;> rfl
    rw [this]
    refine ⟨fun x hx => ?_, fun a' => by simp, fun N hN => by show a.block < N; omega, fun x hx a' e => ?_⟩
    · simp only [MemAct.touch?, Option.some.injEq] at hx
      subst hx; simp
    · simp only [MemAct.touch?, Option.some.injEq] at hx
      subst hx
      simp only at e
      rw [← Loc.cell.inj e]; exact ha
  rcases hes with hes | rfl
  · refine ⟨deafBehind_still (fun e he => ?_) dh, fun e he => ?_⟩
    · rcases hes e he with ⟨x, b, rfl, _⟩ | ⟨x, rfl | rfl, _⟩ <;> exact ⟨by simp [Go.ConcR.mk], by simp [Go.ConcR.mk]⟩
    · rcases hes e he with ⟨x, b, rfl, hx⟩ | ⟨x, rfl | rfl, hx⟩
      · exact cellok x b hx
      · refine ⟨fun y hy => ?_, fun a' => by simp [MemAct.ofEvent, Go.ConcR.mk], fun N hN => by show x.block < N; omega, fun y hy a' e => ?_⟩
        · simp [MemAct.ofEvent, Go.ConcR.mk, MemAct.touch?] at hy; subst hy; simp
        · simp [MemAct.ofEvent, Go.ConcR.mk, MemAct.touch?] at hy; subst hy
          simp only at e
          rw [← Loc.cell.inj e]; exact hx
      · refine ⟨fun y hy => ?_, fun a' => by simp [MemAct.ofEvent, Go.ConcR.mk], fun N hN => by show x.block < N; omega, fun y hy a' e => ?_⟩
        · simp [MemAct.ofEvent, Go.ConcR.mk, MemAct.touch?] at hy; subst hy; simp
        · simp [MemAct.ofEvent, Go.ConcR.mk, MemAct.touch?] at hy; subst hy
          simp only at e
          rw [← Loc.cell.inj e]; exact hx
  · refine ⟨by simp [semEvents, deafBehind], fun e he => ?_⟩
    simp only [semEvents, List.mem_toArray, List.mem_cons, List.not_mem_nil, or_false] at he
    rcases he with rfl | rfl | rfl | rfl
    · exact ⟨fun y hy => by simp [MemAct.ofEvent, MemAct.touch?] at hy, fun a' => by simp [MemAct.ofEvent], fun N hN => trivial, fun y hy => by simp [MemAct.ofEvent, MemAct.touch?] at hy⟩
    · exact cellok _ _ rfl
    · exact cellok _ _ rfl
    · exact ⟨fun y hy => by simp [MemAct.ofEvent, MemAct.touch?] at hy, fun a' => by simp [MemAct.ofEvent], fun N hN => trivial, fun y hy => by simp [MemAct.ofEvent, MemAct.touch?] at hy⟩

/-- The holder's own step while it waits. -/
theorem CrewD.own (C : CrewD P X V h dh b0 B Rd cn T gs w q md) {a a' : Goroutine} {w' : World} {es : Array Event} {md' : Md} (hes : EvA b0 es) (hw' : w' = w ∨ ∃ x v, w' = w.setCell x v ∧ x.block = b0) (hmd : MdOk X h gs.size B cn w' b0 md') :
    CrewD P X V h dh b0 B Rd cn (T ++ MemOp.ofEvents h a.frame.fn a.frame.place es) ((gs.map (woken P a a' w')).setIfInBounds h a') w' q md' ∧ ((gs.map (woken P a a' w')).setIfInBounds h a')[h]? = some a' ∧ Ext V w w' ∧ Env X w w' := by
  obtain ⟨st0, sm0, hwg0⟩ := C.mok.wg
  have M := C.m
  have hWlt : b0 < w.heap.size := (Array.getElem?_eq_some_iff.1 hwg0).1
  have hops : ∀ op ∈ MemOp.ofEvents h a.frame.fn a.frame.place es, op.g = h := fun op hop => by obtain ⟨e, _, rfl⟩ := Go.Conc.mem_ofEvents hop; rfl
  have hE : Ext V w w' ∧ Env X w w' ∧ w'.heap.size = w.heap.size ∧ ∀ b, b ≠ b0 → w'.heap[b]? = w.heap[b]? := by
    rcases hw' with rfl | ⟨x, v, rfl, hx⟩
    · exact ⟨Ext.refl V _, Env.refl X _, rfl, fun _ _ => rfl⟩
    · exact ⟨Ext.setCell w x v (hx ▸ C.vol), env_group X w x v hx (fun a' ha' => (M.st a' ha').2.1) C.on hwg0 hmd.wg, size_setCell' w x v, fun b hb => heap_setCell_ne w x v (by rw [hx]; exact hb)⟩
  have hchan : ∀ {c k : Nat}, w.heap[c]? = some (.chan 0 #[] false k k false) → w'.heap[c]? = some (.chan 0 #[] false k k false) := fun {c k} hk => by
    rw [hE.2.2.2 c (fun e => by subst e; rw [hwg0] at hk; cases hk)]; exact hk
  have hfix : ∀ (x : Nat) (y : Goroutine), x ≠ h → gs[x]? = some y → y.again w' = y := by
    intro x y hx hy
    rcases (M.idle x y hx hy).status with hs | hs | ⟨c, z, home, g₂, e, rfl⟩
    · exact again_running w' (.inl hs)
    · exact again_running w' (.inr hs)
    · obtain ⟨_, k, hk⟩ := M.seats x c z home hx e
      exact again_recv_open (hchan hk)
  refine ⟨⟨⟨by simpa using M.hlt, fun x y hx hy => ?_, fun i c z home hi e => ?_, M.inj, fun j hj => ?_, ?_, fun g l hl => ?_, M.rds, fun x hx => ?_, M.sh, fun x hx => by rw [hE.2.2.1]; exact M.shlow x hx, fun b hb => by rw [hE.2.2.1]; exact M.exlow b hb, fun b o => ?_, fun b o => by simpa using M.few b o, M.volD, M.volC, ?_⟩, C.on, C.nos, C.hch, C.vol⟩, Array.getElem?_setIfInBounds_self_of_lt (by simpa using M.hlt), hE.1, hE.2.1⟩
  · rw [Array.getElem?_setIfInBounds_ne (fun e => hx e.symm), Array.getElem?_map] at hy
    obtain ⟨y₀, hy₀, rfl⟩ := Option.map_eq_some_iff.1 hy
    rw [woken_of_again (hfix x y₀ hx hy₀)]
    exact (M.idle x y₀ hx hy₀).env hE.2.1 (Deaf_other T (fun z => hx z.symm) _ hops) fun _ z => z
  · obtain ⟨hc, k, hk⟩ := M.seats i c z home hi e
    exact ⟨hc, k, hchan hk⟩
  · simp only [Array.size_setIfInBounds, Array.size_map] at hj
    have := M.hlt
    exact ⟨(Deaf_other T (by omega) _ hops).trans (M.out j hj).1, (M.out j hj).2⟩
  · rw [Deaf_own, M.hdeaf]
    exact (evA_ops hes).1
  · obtain ⟨x, rfl, hx⟩ := M.rdp g l hl
    exact ⟨x, rfl, (hE.2.1.prot hx).2⟩
  · obtain ⟨h1, h2, v, h3⟩ := M.st x hx
    exact ⟨by rw [hE.2.2.1]; exact h1, h2, v, by rw [hE.2.1.st x hx]; exact h3⟩
  · simp only [Array.size_setIfInBounds, Array.size_map]
    by_cases eb : b = b0
    · subst eb; rw [upd_same]; exact hmd
    · have := (M.mdok b o).same (hE.2.2.2 b eb)
      rw [upd_ne _ _ eb] at this ⊢
      exact this
  · refine M.past.appH hE.2.1.size hops (fun x => x.1 rfl) (fun op hop b hb => ?_) (fun op hop x e => ?_) (fun op hop => ?_)
    · obtain ⟨e, he, rfl⟩ := Go.Conc.mem_ofEvents hop
      refine ⟨fun _ => ((evA_ops (dh := 0) hes).2 e he).1 b hb, fun hw g hg hr => ?_⟩
      obtain ⟨x, hx, hp⟩ := M.rdp g _ hr
      exact not_prot_wg (fun a ha => (M.st a ha).2.1) C.on hwg0 (((evA_ops (dh := 0) hes).2 e he).2.2.2 b hb x hx) hp
    · obtain ⟨ev, he, rfl⟩ := Go.Conc.mem_ofEvents hop
      exact ((evA_ops (dh := 0) hes).2 ev he).2.1 x e
    · obtain ⟨ev, he, rfl⟩ := Go.Conc.mem_ofEvents hop
      rw [hE.2.2.1]
      exact ((evA_ops (dh := 0) hes).2 ev he).2.2.1 _ hWlt

/-- What is held while the holder waits. -/
def WInv (P : Program) (X : Cx) (V : Nat → Prop) (h dh b0 : Nat) (Anch Fin : Goroutine → World → Prop) (n : Nat) (w : World) (Bb : Nat → By) (cb : Nat → Nat) (α β : Nat) (m : Machine) (t : Trace) : Prop :=
  ∃ (gs₁ : Array Goroutine) (a₁ : Goroutine) (w₁ : World) (sl₁ : Option (Nat × Nat)) (q₁ : Nat → Nat × Nat) (Rd₁ : Nat → Loc → Prop) (B₁ : Nat → By) (cn₁ : Nat → Nat) (md₁ : Md) (tag : Tag) (n₁ : Nat), m = crowd gs₁ w₁ sl₁ ∧ gs₁.size = n ∧ gs₁[h]? = some a₁ ∧ Ext V w w₁ ∧ Env X w w₁ ∧ Later h Bb cb B₁ cn₁ ∧ CrewD P X V h dh b0 B₁ Rd₁ cn₁ t gs₁ w₁ q₁ md₁ ∧
    SitAt P (h == 0) X.ty b0 Anch Fin n₁ a₁ w₁ tag ∧ TagMd (sm X n cn₁ b0) tag md₁ ∧ α = 4 * sumTo n (fun i => (q₁ i).1) + tw (sm X n cn₁ b0) tag ∧ β = 2 * sumTo n (fun i => (q₁ i).2) + hb n₁ tag
def WEnd (P : Program) (X : Cx) (V : Nat → Prop) (h dh b0 : Nat) (Fin : Goroutine → World → Prop) (n : Nat) (w : World) (Bb : Nat → By) (cb : Nat → Nat) (m : Machine) (t : Trace) : Prop :=
  ∃ (gs₁ : Array Goroutine) (a₁ : Goroutine) (w₁ : World) (sl₁ : Option (Nat × Nat)) (q₁ : Nat → Nat × Nat) (Rd₁ : Nat → Loc → Prop) (B₁ : Nat → By) (cn₁ : Nat → Nat) (md₁ : Md), m = crowd gs₁ w₁ sl₁ ∧ gs₁.size = n ∧ gs₁[h]? = some a₁ ∧ Fin a₁ w₁ ∧ Ext V w w₁ ∧ Env X w w₁ ∧ Later h Bb cb B₁ cn₁ ∧ (∀ i, i ≠ h → X.wg i = b0 → B₁ i = .gone) ∧ WgAt X.ty b0 w₁ 0 0 ∧
    CrewD P X V h dh b0 B₁ Rd₁ cn₁ t gs₁ w₁ q₁ md₁

theorem SitAt.run {ty : TypeId} {Wg m : Nat} {g : Goroutine} {tag : Tag} (hAr : ∀ g w, Anch g w → g.status = .running) (hFr : ∀ g w, Fin g w → g.status = .running) (H : SitAt P mn ty Wg Anch Fin m g w tag) :
    g.status = .running ∨ (tag = .blk ∧ m = 0 ∧ ∃ g0, Goes P mn (RLive ty Wg) D0 (W3 P mn ty Wg Fin) 0 g0 w ∧ g0.status = .running ∧ g0.offers = none ∧ g = { g0 with status := .blocked }) := by
  cases tag with
  | blk => exact .inr ⟨rfl, H⟩
  | anch => exact .inl (goesW_run hAr H)
  | fin => exact .inl (goesW_run hFr H)
  | w1 => exact .inl (goesW_run (fun _ _ x => x.1) H)
  | w2 vs => exact .inl (goesW_run (fun _ _ x => x.1) H)
  | wr => exact .inl (goesW_run (fun _ _ x => x.1) H)
  | w3 => exact .inl (goesW_run (fun _ _ x => x.1) H)
  | w4 => exact .inl (goesW_run (fun _ _ x => x.1) H)

/-- The holder's step, by where it stands. -/
theorem wait_own (hA : ∀ g w, Anch g w → ∃ m, Goes P (h == 0) (RLive X.ty b0) D0 (W1 P (h == 0) X.ty b0 Anch Fin) m g w) {tag : Tag} {n₁ : Nat} {a : Goroutine} (hrun : a.status = .running)
    (C : CrewD P X V h dh b0 B Rd cn T gs w q md) (hS : SitAt P (h == 0) X.ty b0 Anch Fin n₁ a w tag) (hT : TagMd (sm X gs.size cn b0) tag md) (hnf : tag = .fin → ¬ ∀ w₁, RLive X.ty b0 w w₁ → Fin a w₁) :
    ∃ (a' : Goroutine) (w' : World) (es : Array Event) (md' : Md) (tag' : Tag) (n' : Nat), stepG P (h == 0) a w = .go a' w' es ∧ EvA b0 es ∧ (w' = w ∨ ∃ x v, w' = w.setCell x v ∧ x.block = b0) ∧ MdOk X h gs.size B cn w' b0 md' ∧ SitAt P (h == 0) X.ty b0 Anch Fin n' a' w' tag' ∧ TagMd (sm X gs.size cn b0) tag' md' ∧
      (tw (sm X gs.size cn b0) tag' < tw (sm X gs.size cn b0) tag ∨ (tw (sm X gs.size cn b0) tag' = tw (sm X gs.size cn b0) tag ∧ hb n' tag' < hb n₁ tag)) := by
  have hfew := C.m.few b0 C.on
  have hmd := C.mok
  -- at the load
  have atW1 : ∀ m, Goes P (h == 0) (RLive X.ty b0) D0 (W1 P (h == 0) X.ty b0 Anch Fin) m a w → md = .norm 0 →
      ∃ (a' : Goroutine) (w' : World) (es : Array Event) (md' : Md) (tag' : Tag) (n' : Nat), stepG P (h == 0) a w = .go a' w' es ∧ EvA b0 es ∧ (w' = w ∨ ∃ x v, w' = w.setCell x v ∧ x.block = b0) ∧ MdOk X h gs.size B cn w' b0 md' ∧ SitAt P (h == 0) X.ty b0 Anch Fin n' a' w' tag' ∧ TagMd (sm X gs.size cn b0) tag' md' ∧
        (tw (sm X gs.size cn b0) tag' < 9 ∨ (tag' = .w1 ∧ n' < m)) := by
    intro m hG e
    subst e
    rcases goesW_cases' hG with hs | ⟨k, g', es, rfl, hgo, hes, hG'⟩
    · obtain ⟨_, hst⟩ := hs w id
      have hwg : WgAt X.ty b0 w ((sm X gs.size cn b0 : Nat) * KK) 0 := by have := hmd.2.1; simpa using this
      obtain ⟨g', es, hgo, hes, h0, h1⟩ := hst (sm X gs.size cn b0) (by omega) hwg
      by_cases hz : sm X gs.size cn b0 = 0
      · obtain ⟨m', hF⟩ := h0 hz
        exact ⟨g', w, es, .norm 0, .fin, m', hgo, hes, .inl rfl, hmd, hF, ⟨rfl, hz⟩, .inl (by simp [tw])⟩
      · obtain ⟨m', hF⟩ := h1 hz
        exact ⟨g', w, es, .norm 0, .w2 (sm X gs.size cn b0), m', hgo, hes, .inl rfl, hmd, hF, ⟨rfl, Nat.le_refl _, by omega⟩, .inl (by simp [tw])⟩
    · exact ⟨g', w, es, .norm 0, .w1, k, hgo, hes, .inl rfl, hmd, hG', rfl, .inr ⟨rfl, Nat.lt_succ_self k⟩⟩
  cases tag with
  | blk =>
    obtain ⟨_, g0, _, _, _, rfl⟩ := hS
    cases hrun
  | anch =>
    have e : md = .norm 0 := by cases md <;> simp only [TagMd] at hT <;> first | exact hT.elim | rw [hT]
    rcases goesW_cases' (hS : Goes P (h == 0) (RLive X.ty b0) D0 Anch n₁ a w) with hs | ⟨k, g', es, rfl, hgo, hes, hG'⟩
    · obtain ⟨m, hG⟩ := hA a w (hs w id)
      obtain ⟨a', w', es, md', tag', n', h1, h2, h3, h4, h5, h6, h7⟩ := atW1 m hG e
      refine ⟨a', w', es, md', tag', n', h1, h2, h3, h4, h5, h6, .inl ?_⟩
      rcases h7 with x | ⟨rfl, _⟩
      · simp only [tw] at x ⊢; omega
      · simp [tw]
    · exact ⟨g', w, es, md, .anch, k, hgo, hes, .inl rfl, hmd, hG', hT, .inr ⟨rfl, Nat.lt_succ_self k⟩⟩
  | w1 =>
    have e : md = .norm 0 := by cases md <;> simp only [TagMd] at hT <;> first | exact hT.elim | rw [hT]
    obtain ⟨a', w', es, md', tag', n', h1, h2, h3, h4, h5, h6, h7⟩ := atW1 n₁ hS e
    refine ⟨a', w', es, md', tag', n', h1, h2, h3, h4, h5, h6, ?_⟩
    rcases h7 with x | ⟨rfl, x⟩
    · exact .inl x
    · exact .inr ⟨rfl, x⟩
  | w2 vs =>
    obtain ⟨e, hvs, hv1⟩ : md = .norm 0 ∧ sm X gs.size cn b0 ≤ vs ∧ 1 ≤ vs := by cases md <;> simp only [TagMd] at hT <;> first | exact hT.elim | exact ⟨by rw [hT.1], hT.2⟩
    subst e
    rcases goesW_cases' (hS : Goes P (h == 0) (RLive X.ty b0) D0 (W2 P (h == 0) X.ty b0 Anch Fin vs) n₁ a w) with hs | ⟨k, g', es, rfl, hgo, hes, hG'⟩
    · obtain ⟨_, hst⟩ := hs w id
      have hwg : WgAt X.ty b0 w ((sm X gs.size cn b0 : Nat) * KK) 0 := by have := hmd.2.1; simpa using this
      obtain ⟨hit, miss⟩ := hst (sm X gs.size cn b0) (by omega) hwg
      by_cases hz : sm X gs.size cn b0 = vs
      · obtain ⟨g', es, hgo, hes, m', hG'⟩ := hit hz
        exact ⟨g', _, es, .norm 1, .wr, m', hgo, hes, .inr ⟨_, _, rfl, rfl⟩, ⟨by omega, wgAt_setSt hwg, fun _ => ⟨by omega, C.hch, C.nos⟩, hmd.2.2.2.1, hmd.2.2.2.2⟩, hG', rfl, .inl (by simp [tw, hz])⟩
      · obtain ⟨g', es, hgo, hes, m', hG'⟩ := miss hz
        exact ⟨g', w, es, .norm 0, .anch, m', hgo, hes, .inl rfl, hmd, hG', rfl, .inl (by simp [tw, hz])⟩
    · exact ⟨g', w, es, .norm 0, .w2 vs, k, hgo, hes, .inl rfl, hmd, hG', hT, .inr ⟨rfl, Nat.lt_succ_self k⟩⟩
  | wr =>
    rcases goesW_cases' (hS : Goes P (h == 0) (RLive X.ty b0) D0 (Wr P (h == 0) X.ty b0 Fin) n₁ a w) with hs | ⟨k, g', es, rfl, hgo, hes, hG'⟩
    · obtain ⟨_, g', es, hgo, hes, m', hG'⟩ := hs w id
      exact ⟨g', w, es, md, .w3, m', hgo, hes, .inl rfl, hmd, hG', by cases md <;> exact hT, .inl (by simp [tw])⟩
    · exact ⟨g', w, es, md, .wr, k, hgo, hes, .inl rfl, hmd, hG', hT, .inr ⟨rfl, Nat.lt_succ_self k⟩⟩
  | w3 =>
    rcases goesW_cases' (hS : Goes P (h == 0) (RLive X.ty b0) D0 (W3 P (h == 0) X.ty b0 Fin) n₁ a w) with hs | ⟨k, g', es, rfl, hgo, hes, hG'⟩
    · obtain ⟨hr, ho, hblk, hsem⟩ := hs w id
      have blocks : (∃ st, WgAt X.ty b0 w st 0) → TagMd (sm X gs.size cn b0) .blk md → _ := fun hz hT' => (⟨{ a with status := .blocked }, w, #[], md, .blk, 0, hblk hz, evA_nil _, .inl rfl, hmd, ⟨rfl, a, hs, hr, ho, rfl⟩, hT', .inr ⟨rfl, Nat.succ_pos n₁⟩⟩ :
        ∃ (a' : Goroutine) (w' : World) (es : Array Event) (md' : Md) (tag' : Tag) (n' : Nat), stepG P (h == 0) a w = .go a' w' es ∧ EvA b0 es ∧ (w' = w ∨ ∃ x v, w' = w.setCell x v ∧ x.block = b0) ∧ MdOk X h gs.size B cn w' b0 md' ∧ SitAt P (h == 0) X.ty b0 Anch Fin n' a' w' tag' ∧ TagMd (sm X gs.size cn b0) tag' md' ∧
          (tw (sm X gs.size cn b0) tag' < tw (sm X gs.size cn b0) .w3 ∨ (tw (sm X gs.size cn b0) tag' = tw (sm X gs.size cn b0) .w3 ∧ hb n' tag' < hb n₁ .w3)))
      cases md with
      | norm wt => exact blocks ⟨_, hmd.2.1⟩ hT
      | last L s => exact blocks ⟨_, hmd.2.2.2.2.2⟩ trivial
      | sema =>
        obtain ⟨g', es, hgo, hes, m', hG'⟩ := hsem hmd.2
        exact ⟨g', _, es, .fin, .w4, m', hgo, hes, .inr ⟨_, _, rfl, rfl⟩, ⟨hmd.1, wgAt_setSm hmd.2⟩, hG', trivial, .inl (by simp [tw])⟩
      | fin => exact hT.elim
    · exact ⟨g', w, es, md, .w3, k, hgo, hes, .inl rfl, hmd, hG', hT, .inr ⟨rfl, Nat.lt_succ_self (k + 1)⟩⟩
  | w4 =>
    have e : md = .fin := by cases md <;> simp only [TagMd] at hT <;> first | exact hT.elim | rfl
    subst e
    rcases goesW_cases' (hS : Goes P (h == 0) (RLive X.ty b0) D0 (W4 P (h == 0) X.ty b0 Fin) n₁ a w) with hs | ⟨k, g', es, rfl, hgo, hes, hG'⟩
    · obtain ⟨_, hst⟩ := hs w id
      obtain ⟨g', es, hgo, hes, m', hG'⟩ := hst hmd.2
      exact ⟨g', w, es, .fin, .fin, m', hgo, hes, .inl rfl, hmd, hG', trivial, .inl (by simp [tw])⟩
    · exact ⟨g', w, es, .fin, .w4, k, hgo, hes, .inl rfl, hmd, hG', trivial, .inr ⟨rfl, Nat.lt_succ_self k⟩⟩
  | fin =>
    rcases goesW_cases' (hS : Goes P (h == 0) (RLive X.ty b0) D0 Fin n₁ a w) with hs | ⟨k, g', es, rfl, hgo, hes, hG'⟩
    · exact absurd hs (hnf rfl)
    · exact ⟨g', w, es, md, .fin, k, hgo, hes, .inl rfl, hmd, hG', hT, .inr ⟨rfl, Nat.lt_succ_self k⟩⟩

/-- One step of the machine's. -/
theorem wait_step (hA : ∀ g w, Anch g w → ∃ m, Goes P (h == 0) (RLive X.ty b0) D0 (W1 P (h == 0) X.ty b0 Anch Fin) m g w) (hAr : ∀ g w, Anch g w → g.status = .running) (hFr : ∀ g w, Fin g w → g.status = .running) {n : Nat} {Bb : Nat → By} {cb : Nat → Nat} (α β : Nat) (m : Machine) (t : Trace) (hI : WInv P X V h dh b0 Anch Fin n w Bb cb α β m t) :
    WEnd P X V h dh b0 Fin n w Bb cb m t ∨ ∃ m' ops α' β', stepT P m = (.next m', ops) ∧ (α' < α ∨ (α' = α ∧ β' < β)) ∧ WInv P X V h dh b0 Anch Fin n w Bb cb α' β' m' (t ++ ops) := by
  obtain ⟨gs₁, a₁, w₁, sl₁, q₁, Rd₁, B₁, cn₁, md₁, tag, n₁, rfl, rfl, ha₁, hE, hEv, hLt, C₁, hS, hT, rfl, rfl⟩ := hI
  have hrel : ∀ w', Env X w₁ w' → RLive X.ty b0 w₁ w' := fun w' E => E.live b0 C₁.on
  by_cases hfin : tag = .fin ∧ ∀ w', RLive X.ty b0 w₁ w' → Fin a₁ w'
  · obtain ⟨rfl, hF⟩ := hfin
    left
    have hgone : (∀ i, i ≠ h → X.wg i = b0 → B₁ i = .gone) ∧ WgAt X.ty b0 w₁ 0 0 := by
      have hmd := C₁.mok
      cases md₁ with
      | fin => exact hmd
      | norm wt =>
        obtain ⟨rfl, hz⟩ := hT
        obtain ⟨_, h2, _, h4, h5⟩ := hmd
        refine ⟨fun i hi hib => ?_, by rw [hz] at h2; simpa using h2⟩
        cases e : B₁ i with
        | gone => rfl
        | seat c z home => exact absurd e (C₁.nos i hi hib c z home)
        | dn s =>
          have hc := (h4 i s hi hib e).1
          have hil : i < gs₁.size := by
            refine Classical.byContradiction fun hn => ?_
            have := (C₁.m.out i (by omega)).2.2
            rw [e] at this; cases this
          have := le_sm (X := X) (cn := cn₁) hil hib
          omega
      | last L s => exact hT.elim
      | sema => exact hT.elim
    exact ⟨gs₁, a₁, w₁, sl₁, q₁, Rd₁, B₁, cn₁, md₁, rfl, rfl, ha₁, hF w₁ id, hE, hEv, hLt, hgone.1, hgone.2, C₁⟩
  right
  have hrn := hS.run hAr hFr
  have hlive : ∀ x s, x ≠ h → B₁ x = .dn s → ∃ g, gs₁[x]? = some g ∧ g.status = .running := by
    intro x s hx e
    have hxl : x < gs₁.size := by
      refine Classical.byContradiction fun hn => ?_
      have := (C₁.m.out x (by omega)).2.2
      rw [e] at this; cases this
    have hid := C₁.m.idle x _ hx (Array.getElem?_eq_getElem hxl)
    rw [e] at hid
    exact ⟨_, Array.getElem?_eq_getElem hxl, hid.2.2.2.choose_spec.2.running⟩
  have hsome : ∃ (i : Nat) (g : Goroutine), gs₁[i]? = some g ∧ g.status = .running := by
    rcases hrn with hr | ⟨rfl, _⟩
    · exact ⟨h, a₁, ha₁, hr⟩
    · have hmd := C₁.mok
      cases md₁ with
      | norm wt =>
        obtain ⟨_, _, h3, h4, h5⟩ := hmd
        have hpos := (h3 hT).1
        obtain ⟨x, hxl, hxb, hx⟩ : ∃ x, x < gs₁.size ∧ X.wg x = b0 ∧ cn₁ x ≠ 0 := by
          refine Classical.byContradiction fun hn => ?_
          have hz : ∀ k, k ≤ gs₁.size → sumTo k (fun i => if X.wg i = b0 then cn₁ i else 0) = 0 := fun k => by
            induction k with
            | zero => intro _; rfl
            | succ k ih =>
              intro hk
              rw [sumTo, ih (by omega)]
              by_cases e : X.wg k = b0
              · rw [if_pos e]
                by_cases e2 : cn₁ k = 0
                · rw [e2]
                · exact absurd ⟨k, by omega, e, e2⟩ hn
              · rw [if_neg e]
          have := hz gs₁.size (Nat.le_refl _)
          unfold sm at hpos
          omega
        have hxh : x ≠ h := fun e => hx (by rw [e]; exact C₁.hch (by rw [← e]; exact hxb))
        cases e : B₁ x with
        | gone => exact absurd (h5 x hxh hxb e) hx
        | seat c z home => exact absurd e (C₁.nos x hxh hxb c z home)
        | dn s =>
          obtain ⟨g, hg, hr⟩ := hlive x s hxh e
          exact ⟨x, g, hg, hr⟩
      | last L s =>
        obtain ⟨g, hg, hr⟩ := hlive L s hmd.1 hmd.2.2.1
        exact ⟨L, g, hg, hr⟩
      | sema => exact hT.elim
      | fin => exact hT.elim
  obtain ⟨i, g, d, sl', hi, hg, hst⟩ := crowd_pick (P := P) (w := w₁) (sl := sl₁) (C₁.m.awake ha₁ (hrn.imp id fun x => by obtain ⟨_, _, g0, _, _, _, rfl⟩ := x; rfl)) hsome
  have Cd := C₁.at d
  have hSd : SitAt P (h == 0) X.ty b0 Anch Fin n₁ a₁ (w₁.at d) tag := hS.rely fun x => x
  by_cases e : i = h
  · subst e
    obtain rfl : g = a₁ := by rw [ha₁] at hi; exact (Option.some.inj hi).symm
    obtain ⟨a', w', es, md', tag', n', hgo, hes, hw', hmd', hS', hT', hlt⟩ := wait_own hA hg Cd hSd hT (fun e hF => hfin ⟨e, fun w' hw' => hF w' fun x => hw' x⟩)
    obtain ⟨C', ha', E', Ev'⟩ := Cd.own (a := g) (a' := a') hes hw' hmd'
    refine ⟨_, _, _, _, by rw [hst]; exact runT_crowd_go (sl := sl') hi hgo, ?_, _, a', w', sl', q₁, Rd₁, B₁, cn₁, md', tag', n', rfl, by simp, ha', hE.trans ((Ext.at V w₁ d).trans E'), hEv.trans ((Env.at X w₁ d).trans Ev'), hLt, C', hS', hT', rfl, rfl⟩
    rcases hlt with x | ⟨x, y⟩
    · exact .inl (by omega)
    · exact .inr ⟨by omega, by omega⟩
  · have hO : ∀ c, offersAt a₁ c true = [] := fun c => by
      rcases hrn with hr | ⟨_, _, g0, _, _, ho0, rfl⟩
      · exact offersAt_of_not_blocked (by rw [hr]; simp) _ _
      · exact offersAt_none (g := { g0 with status := .blocked }) ho0 c true
    obtain ⟨gs', ops, w', q', Rd', B', cn', md', a₂, hrt, hsz', ⟨hh', hor⟩, E', Ev', hlat', C', hless, hcn, hle, hwake⟩ := Cd.by_step (sl := sl') hi e hg ha₁ hO
    have hS' : SitAt P (h == 0) X.ty b0 Anch Fin n₁ a₁ w' tag := hSd.rely (Ev'.live b0 C₁.on)
    obtain ⟨tag', n', hS2, hT2, htw, hhb⟩ : ∃ tag' n', SitAt P (h == 0) X.ty b0 Anch Fin n' a₂ w' tag' ∧ TagMd (sm X gs₁.size cn' b0) tag' md' ∧ (tw (sm X gs₁.size cn' b0) tag' ≤ tw (sm X gs₁.size cn₁ b0) tag + 3 ∧ (cn' = cn₁ → tw (sm X gs₁.size cn' b0) tag' = tw (sm X gs₁.size cn₁ b0) tag)) ∧ hb n' tag' ≤ hb n₁ tag + 1 := by
      rcases hrn with hr | ⟨rfl, rfl, g0, hG0, hr0, ho0, rfl⟩
      · have ea : a₂ = a₁ := by
          rcases hor with e | e
          · exact e
          · rw [e]; exact again_running w' (.inl hr)
        rw [ea]
        have hnb : tag ≠ .blk := by
          rintro rfl
          obtain ⟨_, g0, _, _, _, rfl⟩ := hS
          cases hr
        refine ⟨tag, n₁, hS', ?_, ⟨?_, fun e => by rw [e]⟩, Nat.le_succ _⟩
        · cases tag <;> cases md₁ <;> cases md' <;> simp only [TagMd, MdLe] at hT hle ⊢ <;> first | omega | trivial | exact absurd rfl hnb
        · cases tag <;> simp only [tw] <;> (try split) <;> (try split) <;> omega
      · have hag : ({ g0 with status := .blocked } : Goroutine).again w' = g0 := by
          obtain ⟨fr, cs, st, dy, of⟩ := g0
          simp only at hr0 ho0
          subst hr0 ho0
          rfl
        have hG' := hG0.rely rlive_trans (w₁ := w') fun x => Ev'.live b0 C₁.on x
        by_cases hw : a₂ = { g0 with status := .blocked }
        · rw [hw]
          have hns : md' ≠ .sema := by
            intro em
            have hms : md₁ ≠ .sema := fun e' => by subst e'; exact hT
            have := hwake em hms
            rw [hag] at this
            rw [this] at hw
            have := congrArg Goroutine.status hw
            rw [hr0] at this; cases this
          refine ⟨.blk, 0, ⟨rfl, g0, hG', hr0, ho0, rfl⟩, ?_, ⟨by simp [tw], fun _ => rfl⟩, Nat.zero_le _⟩
          cases md₁ <;> cases md' <;> simp only [TagMd, MdLe] at hT hle ⊢ <;> first | omega | exact hns rfl | trivial
        · have : a₂ = g0 := by
            rcases hor with e | e
            · exact absurd e hw
            · rw [e]; exact hag
          rw [this]
          refine ⟨.w3, 0, hG', ?_, ⟨by simp [tw], fun _ => rfl⟩, by simp [hb]⟩
          cases md₁ <;> cases md' <;> simp only [TagMd, MdLe] at hT hle ⊢ <;> first | omega | trivial
    refine ⟨_, _, _, _, by rw [hst]; exact hrt, ?_, gs', _, w', sl', q', Rd', B', cn', md', tag', n', rfl, hsz', hh', hE.trans ((Ext.at V w₁ d).trans E'), hEv.trans ((Env.at X w₁ d).trans Ev'), hLt.trans hlat', C', hS2, hT2, rfl, rfl⟩
    rcases hless with x | ⟨x, y⟩
    · exact .inl (by omega)
    · have hc : cn' = cn₁ := hcn.elim id fun z => by omega
      have := htw.2 hc
      exact .inr ⟨by omega, by omega⟩

/-- THE WAIT. -/
theorem CrewD.wait (hA : ∀ g w, Anch g w → ∃ m, Goes P (h == 0) (RLive X.ty b0) D0 (W1 P (h == 0) X.ty b0 Anch Fin) m g w) (hAr : ∀ g w, Anch g w → g.status = .running) (hFr : ∀ g w, Fin g w → g.status = .running)
    (C : CrewD P X V h dh b0 B Rd cn T gs w q (.norm 0)) {a : Goroutine} {m : Nat} {sl : Option (Nat × Nat)} (ha : gs[h]? = some a) (hG : Goes P (h == 0) (RLive X.ty b0) D0 Anch m a w) :
    ∃ N m' T', runNT P N (crowd gs w sl) T = (.next m', T') ∧ WEnd P X V h dh b0 Fin gs.size w B cn m' T' :=
  runs_lex (Inv := WInv P X V h dh b0 Anch Fin gs.size w B cn) (Done := WEnd P X V h dh b0 Fin gs.size w B cn) (fun α β m t hI => wait_step hA hAr hFr α β m t hI) _ _ _ T
    ⟨gs, a, w, sl, q, Rd, B, cn, .norm 0, .anch, m, rfl, rfl, ha, Ext.refl V w, Env.refl X w, Later.refl h B cn, C, hG, rfl, rfl, rfl⟩
end
end Cw
end
end Go.Proofs.Ytggfcdhkgldbfaa
