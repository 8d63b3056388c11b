/-
  PARTS of a claim, merged by segs.py: CwX.
-/
import Derived.Test.YtggfcdhkgldbfaaDoorS06
namespace Go.Proofs.YtggfcdhkgldbfaaDoor
set_option linter.unusedSimpArgs false
set_option linter.unusedVariables false

/-! ### CwX -/
section
namespace Cw
open Go Go.Conc
open Go.ConcN (sumTo upd upd_same upd_ne sumTo_upd sumTo_congr WgLive le_sumTo)
open Go.ConcR (KK wgBlock WgAt stA smA rd wr)

/-- What the waiting goroutine lists: atomic touches of the group's cells; words on them. -/
def EvA (Wg : Nat) (es : Array Event) : Prop := (∀ e ∈ es, (∃ a x, e = ⟨.cell a, x, true⟩ ∧ a.block = Wg) ∨ ∃ a, (e = Go.ConcR.mk (.read a) ∨ e = Go.ConcR.mk (.write a)) ∧ a.block = Wg) ∨ es = semEvents (smA Wg)

theorem evA_nil (Wg : Nat) : EvA Wg #[] := .inl fun e he => by simp at he
section
variable (P : Program) (mn : Bool) (ty : TypeId) (Wg : Nat) (Anch Fin : Goroutine → World → Prop)
/-- At the load behind the semaphore. -/
def W4 (g : Goroutine) (w : World) : Prop := g.status = .running ∧ (WgAt ty Wg w 0 0 → ∃ g' es, stepG P mn g w = .go g' w es ∧ EvA Wg es ∧ ∃ m, (Goes P mn (RLive ty Wg) D0) Fin m g' w)
/-- At the semaphore. -/
def W3 (g : Goroutine) (w : World) : Prop :=
  g.status = .running ∧ g.offers = none ∧ ((∃ st, WgAt ty Wg w st 0) → stepG P mn g w = .go { g with status := .blocked } w #[]) ∧
    (WgAt ty Wg w 0 1 → ∃ g' es, stepG P mn g w = .go g' (w.setCell (smA Wg) (.int .u32 0)) es ∧ EvA Wg es ∧ ∃ m, (Goes P mn (RLive ty Wg) D0) (W4 P mn ty Wg Fin) m g' (w.setCell (smA Wg) (.int .u32 0)))
/-- At the word on the semaphore. -/
def Wr (g : Goroutine) (w : World) : Prop := g.status = .running ∧ ∃ g' es, stepG P mn g w = .go g' w es ∧ EvA Wg es ∧ ∃ m, (Goes P mn (RLive ty Wg) D0) (W3 P mn ty Wg Fin) m g' w
/-- At the CompareAndSwap, 'vs' having been seen. -/
def W2 (vs : Nat) (g : Goroutine) (w : World) : Prop :=
  g.status = .running ∧ ∀ v : Nat, v < 2147483648 → WgAt ty Wg w ((v : Int) * KK) 0 →
    (v = vs → ∃ g' es, stepG P mn g w = .go g' (w.setCell (stA Wg) (.int .u64 ((v : Int) * KK + 1))) es ∧ EvA Wg es ∧ ∃ m, (Goes P mn (RLive ty Wg) D0) (Wr P mn ty Wg Fin) m g' (w.setCell (stA Wg) (.int .u64 ((v : Int) * KK + 1)))) ∧
    (v ≠ vs → ∃ g' es, stepG P mn g w = .go g' w es ∧ EvA Wg es ∧ ∃ m, (Goes P mn (RLive ty Wg) D0) Anch m g' w)
/-- At the load. -/
def W1 (g : Goroutine) (w : World) : Prop :=
  g.status = .running ∧ ∀ v : Nat, v < 2147483648 → WgAt ty Wg w ((v : Int) * KK) 0 → ∃ g' es, stepG P mn g w = .go g' w es ∧ EvA Wg es ∧
    (v = 0 → ∃ m, (Goes P mn (RLive ty Wg) D0) Fin m g' w) ∧ (v ≠ 0 → ∃ m, (Goes P mn (RLive ty Wg) D0) (W2 P mn ty Wg Anch Fin v) m g' w)

inductive Tag where
  | anch | w1 | w2 (vs : Nat) | wr | w3 | blk | w4 | fin
def SitAt (m : Nat) (g : Goroutine) (w : World) : Tag → Prop
  | .anch => (Goes P mn (RLive ty Wg) D0) Anch m g w
  | .w1 => (Goes P mn (RLive ty Wg) D0) (W1 P mn ty Wg Anch Fin) m g w
  | .w2 vs => (Goes P mn (RLive ty Wg) D0) (W2 P mn ty Wg Anch Fin vs) m g w
  | .wr => (Goes P mn (RLive ty Wg) D0) (Wr P mn ty Wg Fin) m g w
  | .w3 => (Goes P mn (RLive ty Wg) D0) (W3 P mn ty Wg Fin) m g w
  | .blk => m = 0 ∧ ∃ g0, (Goes P mn (RLive ty Wg) D0) (W3 P mn ty Wg Fin) 0 g0 w ∧ g0.status = .running ∧ g0.offers = none ∧ g = { g0 with status := .blocked }
  | .w4 => (Goes P mn (RLive ty Wg) D0) (W4 P mn ty Wg Fin) m g w
  | .fin => (Goes P mn (RLive ty Wg) D0) Fin m g w
end
def TagMd (n : Nat) : Tag → Md → Prop
  | .anch, .norm wt | .w1, .norm wt => wt = 0
  | .w2 vs, .norm wt => wt = 0 ∧ n ≤ vs ∧ 1 ≤ vs
  | .wr, .norm wt | .w3, .norm wt | .blk, .norm wt => wt = 1
  | .wr, .last _ _ | .w3, .last _ _ | .blk, .last _ _ => True
  | .wr, .sema | .w3, .sema => True
  | .w4, .fin | .fin, .fin => True
  | .fin, .norm wt => wt = 0 ∧ n = 0
  | _, _ => False
def tw (n : Nat) : Tag → Nat
  | .anch => 10
  | .w1 => 9
  | .w2 vs => if n = vs then 8 else 11
  | .wr => 7
  | .w3 | .blk => 6
  | .w4 => 5
  | .fin => 4
def hb (m : Nat) : Tag → Nat
  | .w3 => m + 1
  | .blk => 0
  | _ => m

section
variable {P : Program} {X : Cx} {V : Nat → Prop} {h dh : Nat} {B : Nat → By} {cn : Nat → Nat} {T : Trace} {gs : Array Goroutine} {w : World} {q : Nat → Nat × Nat} {md : Md} {mn : Bool} {Anch Fin : Goroutine → World → Prop}

theorem SitAt.rely {ty : TypeId} {Wg m : Nat} {g : Goroutine} {tag : Tag} {w' : World} (H : SitAt P mn ty Wg Anch Fin m g w tag) (r : RLive ty Wg w w') : SitAt P mn ty Wg Anch Fin m g w' tag := by
  cases tag with
  | blk => obtain ⟨h1, g0, h2, h3⟩ := H; exact ⟨h1, g0, h2.rely rlive_trans r, h3⟩
  | _ => exact Goes.rely rlive_trans H r

theorem goesW_run {ty : TypeId} {Wg m : Nat} {Stop : Goroutine → World → Prop} {g : Goroutine} {w : World} (hS : ∀ g w, Stop g w → g.status = .running) (hG : Goes P mn (RLive ty Wg) D0 Stop m g w) : g.status = .running := by
  cases m with
  | zero => exact hS _ _ (hG w id)
  | succ m => exact hG.elim (fun x => hS _ _ (x w id)) (·.1)

theorem goesW_cases' {ty : TypeId} {Wg m : Nat} {Stop : Goroutine → World → Prop} {g : Goroutine} {w : World} (hG : Goes P mn (RLive ty Wg) D0 Stop m g w) :
    (∀ w₁, RLive ty Wg w w₁ → Stop g w₁) ∨ ∃ k g' es, m = k + 1 ∧ stepG P mn g w = .go g' w es ∧ EvA Wg es ∧ Goes P mn (RLive ty Wg) D0 Stop k g' w := by
  cases m with
  | zero => exact .inl hG
  | succ k =>
    rcases hG with hs | ⟨_, hs⟩
    · exact .inl hs
    · have h1 := hs w id
      cases e : stepG P mn g w with
      | go g' w' es =>
        rw [e, goes_go] at h1
        obtain ⟨⟨e1, e2⟩, h2⟩ := h1
        subst e1 e2
        exact .inr ⟨k, g', #[], rfl, rfl, evA_nil Wg, h2⟩
      | _ => rw [e] at h1; exact h1.elim

/-- What such a step lists, entry by entry. -/
theorem evA_ops {Wg dh : Nat} {es : Array Event} (hes : EvA Wg es) : deafBehind dh es = dh ∧ ∀ e ∈ es, (∀ x, (MemAct.ofEvent e).touch? = some x → x.kind ≠ .plain) ∧ (∀ a, MemAct.ofEvent e ≠ .mark (.release a)) ∧ ∀ N, Wg < N → (MemAct.ofEvent e).low N := by
  have cellok : ∀ (a : Addr) (b : Bool), a.block = Wg → (∀ x, (MemAct.ofEvent ⟨.cell a, b, true⟩).touch? = some x → x.kind ≠ .plain) ∧ (∀ a', MemAct.ofEvent ⟨.cell a, b, true⟩ ≠ .mark (.release a')) ∧ ∀ N, Wg < N → (MemAct.ofEvent ⟨.cell a, b, true⟩).low N := by
    intro a b ha
    have : MemAct.ofEvent ⟨.cell a, b, true⟩ = .access ⟨.cell a, b, true⟩ := by cases b <;> rfl
    rw [this]
    refine ⟨fun x hx => ?_, fun a' => by simp, fun N hN => by show a.block < N; omega⟩
    simp only [MemAct.touch?, Option.some.injEq] at hx
    subst hx; simp
  rcases hes with hes | rfl
  · refine ⟨deafBehind_still (fun e he => ?_) dh, fun e he => ?_⟩
    · rcases hes e he with ⟨x, b, rfl, _⟩ | ⟨x, rfl | rfl, _⟩ <;> exact ⟨by simp [Go.ConcR.mk], by simp [Go.ConcR.mk]⟩
    · rcases hes e he with ⟨x, b, rfl, hx⟩ | ⟨x, rfl | rfl, hx⟩
      · exact cellok x b hx
      · refine ⟨fun y hy => ?_, fun a' => by simp [MemAct.ofEvent, Go.ConcR.mk], fun N hN => by show x.block < N; omega⟩
        simp [MemAct.ofEvent, Go.ConcR.mk, MemAct.touch?] at hy; subst hy; simp
      · refine ⟨fun y hy => ?_, fun a' => by simp [MemAct.ofEvent, Go.ConcR.mk], fun N hN => by show x.block < N; omega⟩
        simp [MemAct.ofEvent, Go.ConcR.mk, MemAct.touch?] at hy; subst hy; simp
  · refine ⟨by simp [semEvents, deafBehind], fun e he => ?_⟩
    simp only [semEvents, List.mem_toArray, List.mem_cons, List.not_mem_nil, or_false] at he
    rcases he with rfl | rfl | rfl | rfl
    · exact ⟨fun y hy => by simp [MemAct.ofEvent, MemAct.touch?] at hy, fun a' => by simp [MemAct.ofEvent], fun N hN => trivial⟩
    · exact cellok _ _ rfl
    · exact cellok _ _ rfl
    · exact ⟨fun y hy => by simp [MemAct.ofEvent, MemAct.touch?] at hy, fun a' => by simp [MemAct.ofEvent], fun N hN => trivial⟩

/-- The holder's own step while it waits. -/
theorem CrewD.own (C : CrewD P X V h dh B cn T gs w q md) {a a' : Goroutine} {w' : World} {es : Array Event} {md' : Md} (hes : EvA X.Wg es) (hw' : w' = w ∨ ∃ x v, w' = w.setCell x v ∧ x.block = X.Wg) (hmd : MdOk X h gs.size B cn w' md') :
    CrewD P X V h dh B cn (T ++ MemOp.ofEvents h a.frame.fn a.frame.place es) ((gs.map (woken P a a' w')).setIfInBounds h a') w' q md' ∧ ((gs.map (woken P a a' w')).setIfInBounds h a')[h]? = some a' ∧ Ext V w w' ∧ Env X w w' := by
  obtain ⟨st0, sm0, hwg0⟩ := C.md.wg
  have hWlt : X.Wg < w.heap.size := (Array.getElem?_eq_some_iff.1 hwg0).1
  have hops : ∀ op ∈ MemOp.ofEvents h a.frame.fn a.frame.place es, op.g = h := fun op hop => by obtain ⟨e, _, rfl⟩ := Go.Conc.mem_ofEvents hop; rfl
  have hE : Ext V w w' ∧ Env X w w' ∧ w'.heap.size = w.heap.size := by
    rcases hw' with rfl | ⟨x, v, rfl, hx⟩
    · exact ⟨Ext.refl V _, Env.refl X _, rfl⟩
    · exact ⟨Ext.setCell w x v (hx ▸ C.vol), env_group X w x v hx (fun a' ha' _ => (C.st a' ha').2.1) C.on hwg0 hmd.wg, size_setCell' w x v⟩
  refine ⟨⟨by simpa using C.hlt, C.on, fun x y hx hy => ?_, C.noseat, fun j hj => ?_, ?_, fun x hx => ?_, C.sh, fun x hx => by rw [hE.2.2]; exact C.shlow x hx, fun b hb => by rw [hE.2.2]; exact C.exlow b hb, by simpa using C.few, C.vol, by simpa using hmd, ?_⟩, Array.getElem?_setIfInBounds_self_of_lt (by simpa using C.hlt), hE.1, hE.2.1⟩
  · rw [Array.getElem?_setIfInBounds_ne (fun e => hx e.symm), Array.getElem?_map] at hy
    obtain ⟨y₀, hy₀, rfl⟩ := Option.map_eq_some_iff.1 hy
    rw [woken_of_again (C.fixed hx hy₀ w')]
    exact (C.idle x y₀ hx hy₀).env hE.2.1 (Deaf_other T (fun z => hx z.symm) _ hops) fun _ z => z
  · simp only [Array.size_setIfInBounds, Array.size_map] at hj
    have := C.hlt
    exact ⟨(Deaf_other T (by omega) _ hops).trans (C.out j hj).1, (C.out j hj).2⟩
  · rw [Deaf_own, C.hdeaf]
    exact (evA_ops hes).1
  · obtain ⟨h1, h2, v, h3⟩ := C.st x hx
    exact ⟨by rw [hE.2.2]; exact h1, h2, v, by rw [hE.2.1.st x hx]; exact h3⟩
  · refine C.past.appH hE.2.1.size hops (fun x => x) (fun op hop b hb => ?_) (fun op hop x e => ?_) (fun op hop => ?_)
    · obtain ⟨e, he, rfl⟩ := Go.Conc.mem_ofEvents hop
      exact ⟨fun _ => ((evA_ops (dh := 0) hes).2 e he).1 b hb, fun _ _ _ x => x.elim⟩
    · obtain ⟨ev, he, rfl⟩ := Go.Conc.mem_ofEvents hop
      exact ((evA_ops (dh := 0) hes).2 ev he).2.1 x e
    · obtain ⟨ev, he, rfl⟩ := Go.Conc.mem_ofEvents hop
      rw [hE.2.2]
      exact ((evA_ops (dh := 0) hes).2 ev he).2.2 _ hWlt

/-- What is held while the holder waits. -/
def WInv (P : Program) (X : Cx) (V : Nat → Prop) (h dh : Nat) (Anch Fin : Goroutine → World → Prop) (n : Nat) (w : World) (α β : Nat) (m : Machine) (t : Trace) : Prop :=
  ∃ (gs₁ : Array Goroutine) (a₁ : Goroutine) (w₁ : World) (sl₁ : Option (Nat × Nat)) (q₁ : Nat → Nat × Nat) (B₁ : Nat → By) (cn₁ : Nat → Nat) (md₁ : Md) (tag : Tag) (n₁ : Nat), m = crowd gs₁ w₁ sl₁ ∧ gs₁.size = n ∧ gs₁[h]? = some a₁ ∧ Ext V w w₁ ∧ Env X w w₁ ∧ CrewD P X V h dh B₁ cn₁ t gs₁ w₁ q₁ md₁ ∧
    SitAt P (h == 0) X.ty X.Wg Anch Fin n₁ a₁ w₁ tag ∧ TagMd (sumTo n cn₁) tag md₁ ∧ α = 4 * sumTo n (fun i => (q₁ i).1) + tw (sumTo n cn₁) tag ∧ β = 2 * sumTo n (fun i => (q₁ i).2) + hb n₁ tag
def WEnd (P : Program) (X : Cx) (V : Nat → Prop) (h dh : Nat) (Fin : Goroutine → World → Prop) (n : Nat) (w : World) (m : Machine) (t : Trace) : Prop :=
  ∃ (gs₁ : Array Goroutine) (a₁ : Goroutine) (w₁ : World) (sl₁ : Option (Nat × Nat)) (q₁ : Nat → Nat × Nat) (B₁ : Nat → By) (cn₁ : Nat → Nat) (md₁ : Md), m = crowd gs₁ w₁ sl₁ ∧ gs₁.size = n ∧ gs₁[h]? = some a₁ ∧ Fin a₁ w₁ ∧ Ext V w w₁ ∧ Env X w w₁ ∧ (∀ i, i ≠ h → B₁ i = .gone) ∧ WgAt X.ty X.Wg w₁ 0 0 ∧
    CrewD P X V h dh B₁ cn₁ t gs₁ w₁ q₁ md₁

theorem SitAt.run {ty : TypeId} {Wg m : Nat} {g : Goroutine} {tag : Tag} (hAr : ∀ g w, Anch g w → g.status = .running) (hFr : ∀ g w, Fin g w → g.status = .running) (H : SitAt P mn ty Wg Anch Fin m g w tag) :
    g.status = .running ∨ (tag = .blk ∧ m = 0 ∧ ∃ g0, Goes P mn (RLive ty Wg) D0 (W3 P mn ty Wg Fin) 0 g0 w ∧ g0.status = .running ∧ g0.offers = none ∧ g = { g0 with status := .blocked }) := by
  cases tag with
  | blk => exact .inr ⟨rfl, H⟩
  | anch => exact .inl (goesW_run hAr H)
  | fin => exact .inl (goesW_run hFr H)
  | w1 => exact .inl (goesW_run (fun _ _ x => x.1) H)
  | w2 vs => exact .inl (goesW_run (fun _ _ x => x.1) H)
  | wr => exact .inl (goesW_run (fun _ _ x => x.1) H)
  | w3 => exact .inl (goesW_run (fun _ _ x => x.1) H)
  | w4 => exact .inl (goesW_run (fun _ _ x => x.1) H)

/-- The holder's step, by where it stands. -/
theorem wait_own (hA : ∀ g w, Anch g w → ∃ m, Goes P (h == 0) (RLive X.ty X.Wg) D0 (W1 P (h == 0) X.ty X.Wg Anch Fin) m g w) {tag : Tag} {n₁ : Nat} {a : Goroutine} (hrun : a.status = .running)
    (C : CrewD P X V h dh B cn T gs w q md) (hS : SitAt P (h == 0) X.ty X.Wg Anch Fin n₁ a w tag) (hT : TagMd (sumTo gs.size cn) tag md) (hnf : tag = .fin → ¬ ∀ w₁, RLive X.ty X.Wg w w₁ → Fin a w₁) :
    ∃ (a' : Goroutine) (w' : World) (es : Array Event) (md' : Md) (tag' : Tag) (n' : Nat), stepG P (h == 0) a w = .go a' w' es ∧ EvA X.Wg es ∧ (w' = w ∨ ∃ x v, w' = w.setCell x v ∧ x.block = X.Wg) ∧ MdOk X h gs.size B cn w' md' ∧ SitAt P (h == 0) X.ty X.Wg Anch Fin n' a' w' tag' ∧ TagMd (sumTo gs.size cn) tag' md' ∧
      (tw (sumTo gs.size cn) tag' < tw (sumTo gs.size cn) tag ∨ (tw (sumTo gs.size cn) tag' = tw (sumTo gs.size cn) tag ∧ hb n' tag' < hb n₁ tag)) := by
  have hfew := C.few
  have hmd := C.md
  -- at the load
  have atW1 : ∀ m, Goes P (h == 0) (RLive X.ty X.Wg) D0 (W1 P (h == 0) X.ty X.Wg Anch Fin) m a w → md = .norm 0 →
      ∃ (a' : Goroutine) (w' : World) (es : Array Event) (md' : Md) (tag' : Tag) (n' : Nat), stepG P (h == 0) a w = .go a' w' es ∧ EvA X.Wg es ∧ (w' = w ∨ ∃ x v, w' = w.setCell x v ∧ x.block = X.Wg) ∧ MdOk X h gs.size B cn w' md' ∧ SitAt P (h == 0) X.ty X.Wg Anch Fin n' a' w' tag' ∧ TagMd (sumTo gs.size cn) tag' md' ∧
        (tw (sumTo gs.size cn) tag' < 9 ∨ (tag' = .w1 ∧ n' < m)) := by
    intro m hG e
    subst e
    rcases goesW_cases' hG with hs | ⟨k, g', es, rfl, hgo, hes, hG'⟩
    · obtain ⟨_, hst⟩ := hs w id
      have hwg : WgAt X.ty X.Wg w ((sumTo gs.size cn : Nat) * KK) 0 := by have := hmd.2.1; simpa using this
      obtain ⟨g', es, hgo, hes, h0, h1⟩ := hst (sumTo gs.size cn) (by omega) hwg
      by_cases hz : sumTo gs.size cn = 0
      · obtain ⟨m', hF⟩ := h0 hz
        exact ⟨g', w, es, .norm 0, .fin, m', hgo, hes, .inl rfl, hmd, hF, ⟨rfl, hz⟩, .inl (by simp [tw])⟩
      · obtain ⟨m', hF⟩ := h1 hz
        exact ⟨g', w, es, .norm 0, .w2 (sumTo gs.size cn), m', hgo, hes, .inl rfl, hmd, hF, ⟨rfl, Nat.le_refl _, by omega⟩, .inl (by simp [tw])⟩
    · exact ⟨g', w, es, .norm 0, .w1, k, hgo, hes, .inl rfl, hmd, hG', rfl, .inr ⟨rfl, Nat.lt_succ_self k⟩⟩
  cases tag with
  | blk =>
    obtain ⟨_, g0, _, _, _, rfl⟩ := hS
    cases hrun
  | anch =>
    have e : md = .norm 0 := by cases md <;> simp only [TagMd] at hT <;> first | exact hT.elim | rw [hT]
    rcases goesW_cases' (hS : Goes P (h == 0) (RLive X.ty X.Wg) D0 Anch n₁ a w) with hs | ⟨k, g', es, rfl, hgo, hes, hG'⟩
    · obtain ⟨m, hG⟩ := hA a w (hs w id)
      obtain ⟨a', w', es, md', tag', n', h1, h2, h3, h4, h5, h6, h7⟩ := atW1 m hG e
      refine ⟨a', w', es, md', tag', n', h1, h2, h3, h4, h5, h6, .inl ?_⟩
      rcases h7 with x | ⟨rfl, _⟩
      · simp only [tw] at x ⊢; omega
      · simp [tw]
    · exact ⟨g', w, es, md, .anch, k, hgo, hes, .inl rfl, hmd, hG', hT, .inr ⟨rfl, Nat.lt_succ_self k⟩⟩
  | w1 =>
    have e : md = .norm 0 := by cases md <;> simp only [TagMd] at hT <;> first | exact hT.elim | rw [hT]
    obtain ⟨a', w', es, md', tag', n', h1, h2, h3, h4, h5, h6, h7⟩ := atW1 n₁ hS e
    refine ⟨a', w', es, md', tag', n', h1, h2, h3, h4, h5, h6, ?_⟩
    rcases h7 with x | ⟨rfl, x⟩
    · exact .inl x
    · exact .inr ⟨rfl, x⟩
  | w2 vs =>
    obtain ⟨e, hvs, hv1⟩ : md = .norm 0 ∧ sumTo gs.size cn ≤ vs ∧ 1 ≤ vs := by cases md <;> simp only [TagMd] at hT <;> first | exact hT.elim | exact ⟨by rw [hT.1], hT.2⟩
    subst e
    rcases goesW_cases' (hS : Goes P (h == 0) (RLive X.ty X.Wg) D0 (W2 P (h == 0) X.ty X.Wg Anch Fin vs) n₁ a w) with hs | ⟨k, g', es, rfl, hgo, hes, hG'⟩
    · obtain ⟨_, hst⟩ := hs w id
      have hwg : WgAt X.ty X.Wg w ((sumTo gs.size cn : Nat) * KK) 0 := by have := hmd.2.1; simpa using this
      obtain ⟨hit, miss⟩ := hst (sumTo gs.size cn) (by omega) hwg
      by_cases hz : sumTo gs.size cn = vs
      · obtain ⟨g', es, hgo, hes, m', hG'⟩ := hit hz
        exact ⟨g', _, es, .norm 1, .wr, m', hgo, hes, .inr ⟨_, _, rfl, rfl⟩, ⟨by omega, wgAt_setSt hwg, fun _ => by omega, hmd.2.2.2.1, hmd.2.2.2.2⟩, hG', rfl, .inl (by simp [tw, hz])⟩
      · obtain ⟨g', es, hgo, hes, m', hG'⟩ := miss hz
        exact ⟨g', w, es, .norm 0, .anch, m', hgo, hes, .inl rfl, hmd, hG', rfl, .inl (by simp [tw, hz])⟩
    · exact ⟨g', w, es, .norm 0, .w2 vs, k, hgo, hes, .inl rfl, hmd, hG', hT, .inr ⟨rfl, Nat.lt_succ_self k⟩⟩
  | wr =>
    rcases goesW_cases' (hS : Goes P (h == 0) (RLive X.ty X.Wg) D0 (Wr P (h == 0) X.ty X.Wg Fin) n₁ a w) with hs | ⟨k, g', es, rfl, hgo, hes, hG'⟩
    · obtain ⟨_, g', es, hgo, hes, m', hG'⟩ := hs w id
      exact ⟨g', w, es, md, .w3, m', hgo, hes, .inl rfl, hmd, hG', by cases md <;> exact hT, .inl (by simp [tw])⟩
    · exact ⟨g', w, es, md, .wr, k, hgo, hes, .inl rfl, hmd, hG', hT, .inr ⟨rfl, Nat.lt_succ_self k⟩⟩
  | w3 =>
    rcases goesW_cases' (hS : Goes P (h == 0) (RLive X.ty X.Wg) D0 (W3 P (h == 0) X.ty X.Wg Fin) n₁ a w) with hs | ⟨k, g', es, rfl, hgo, hes, hG'⟩
    · obtain ⟨hr, ho, hblk, hsem⟩ := hs w id
      have blocks : (∃ st, WgAt X.ty X.Wg w st 0) → TagMd (sumTo gs.size cn) .blk md → _ := fun hz hT' => (⟨{ a with status := .blocked }, w, #[], md, .blk, 0, hblk hz, evA_nil _, .inl rfl, hmd, ⟨rfl, a, hs, hr, ho, rfl⟩, hT', .inr ⟨rfl, Nat.succ_pos n₁⟩⟩ :
        ∃ (a' : Goroutine) (w' : World) (es : Array Event) (md' : Md) (tag' : Tag) (n' : Nat), stepG P (h == 0) a w = .go a' w' es ∧ EvA X.Wg es ∧ (w' = w ∨ ∃ x v, w' = w.setCell x v ∧ x.block = X.Wg) ∧ MdOk X h gs.size B cn w' md' ∧ SitAt P (h == 0) X.ty X.Wg Anch Fin n' a' w' tag' ∧ TagMd (sumTo gs.size cn) tag' md' ∧
          (tw (sumTo gs.size cn) tag' < tw (sumTo gs.size cn) .w3 ∨ (tw (sumTo gs.size cn) tag' = tw (sumTo gs.size cn) .w3 ∧ hb n' tag' < hb n₁ .w3)))
      cases md with
      | norm wt => exact blocks ⟨_, hmd.2.1⟩ hT
      | last L s => exact blocks ⟨_, hmd.2.2.2.2⟩ trivial
      | sema =>
        obtain ⟨g', es, hgo, hes, m', hG'⟩ := hsem hmd.2
        exact ⟨g', _, es, .fin, .w4, m', hgo, hes, .inr ⟨_, _, rfl, rfl⟩, ⟨hmd.1, wgAt_setSm hmd.2⟩, hG', trivial, .inl (by simp [tw])⟩
      | fin => exact hT.elim
    · exact ⟨g', w, es, md, .w3, k, hgo, hes, .inl rfl, hmd, hG', hT, .inr ⟨rfl, Nat.lt_succ_self (k + 1)⟩⟩
  | w4 =>
    have e : md = .fin := by cases md <;> simp only [TagMd] at hT <;> first | exact hT.elim | rfl
    subst e
    rcases goesW_cases' (hS : Goes P (h == 0) (RLive X.ty X.Wg) D0 (W4 P (h == 0) X.ty X.Wg Fin) n₁ a w) with hs | ⟨k, g', es, rfl, hgo, hes, hG'⟩
    · obtain ⟨_, hst⟩ := hs w id
      obtain ⟨g', es, hgo, hes, m', hG'⟩ := hst hmd.2
      exact ⟨g', w, es, .fin, .fin, m', hgo, hes, .inl rfl, hmd, hG', trivial, .inl (by simp [tw])⟩
    · exact ⟨g', w, es, .fin, .w4, k, hgo, hes, .inl rfl, hmd, hG', trivial, .inr ⟨rfl, Nat.lt_succ_self k⟩⟩
  | fin =>
    rcases goesW_cases' (hS : Goes P (h == 0) (RLive X.ty X.Wg) D0 Fin n₁ a w) with hs | ⟨k, g', es, rfl, hgo, hes, hG'⟩
    · exact absurd hs (hnf rfl)
    · exact ⟨g', w, es, md, .fin, k, hgo, hes, .inl rfl, hmd, hG', hT, .inr ⟨rfl, Nat.lt_succ_self k⟩⟩

/-- One step of the machine's. -/
theorem wait_step (hA : ∀ g w, Anch g w → ∃ m, Goes P (h == 0) (RLive X.ty X.Wg) D0 (W1 P (h == 0) X.ty X.Wg Anch Fin) m g w) (hAr : ∀ g w, Anch g w → g.status = .running) (hFr : ∀ g w, Fin g w → g.status = .running) {n : Nat} (α β : Nat) (m : Machine) (t : Trace) (hI : WInv P X V h dh Anch Fin n w α β m t) :
    WEnd P X V h dh Fin n w m t ∨ ∃ m' ops α' β', stepT P m = (.next m', ops) ∧ (α' < α ∨ (α' = α ∧ β' < β)) ∧ WInv P X V h dh Anch Fin n w α' β' m' (t ++ ops) := by
  obtain ⟨gs₁, a₁, w₁, sl₁, q₁, B₁, cn₁, md₁, tag, n₁, rfl, rfl, ha₁, hE, hEv, C₁, hS, hT, rfl, rfl⟩ := hI
  have hrel : ∀ w', Env X w₁ w' → RLive X.ty X.Wg w₁ w' := fun w' E => E.live C₁.on
  by_cases hfin : tag = .fin ∧ ∀ w', RLive X.ty X.Wg w₁ w' → Fin a₁ w'
  · obtain ⟨rfl, hF⟩ := hfin
    left
    have hgone : (∀ i, i ≠ h → B₁ i = .gone) ∧ WgAt X.ty X.Wg w₁ 0 0 := by
      have hmd := C₁.md
      cases md₁ with
      | fin => exact hmd
      | norm wt =>
        obtain ⟨rfl, hz⟩ := hT
        obtain ⟨_, h2, _, h4, h5⟩ := hmd
        refine ⟨fun i hi => ?_, by rw [hz] at h2; simpa using h2⟩
        cases e : B₁ i with
        | gone => rfl
        | seat c z home => exact absurd e (C₁.noseat i c z home hi)
        | dn s =>
          have hc := (h4 i s hi e).1
          have hil : i < gs₁.size := by
            refine Classical.byContradiction fun hn => ?_
            have := (C₁.out i (by omega)).2
            rw [e] at this; cases this
          have := le_sumTo (f := cn₁) hil
          omega
      | last L s => exact hT.elim
      | sema => exact hT.elim
    exact ⟨gs₁, a₁, w₁, sl₁, q₁, B₁, cn₁, md₁, rfl, rfl, ha₁, hF w₁ id, hE, hEv, hgone.1, hgone.2, C₁⟩
  right
  have hrn := hS.run hAr hFr
  have hlive : ∀ x s, x ≠ h → B₁ x = .dn s → ∃ g, gs₁[x]? = some g ∧ g.status = .running := by
    intro x s hx e
    have hxl : x < gs₁.size := by
      refine Classical.byContradiction fun hn => ?_
      have := (C₁.out x (by omega)).2
      rw [e] at this; cases this
    have hid := C₁.idle x _ hx (Array.getElem?_eq_getElem hxl)
    rw [e] at hid
    exact ⟨_, Array.getElem?_eq_getElem hxl, hid.2.2.2.choose_spec.2.running⟩
  have hsome : ∃ (i : Nat) (g : Goroutine), gs₁[i]? = some g ∧ g.status = .running := by
    rcases hrn with hr | ⟨rfl, _⟩
    · exact ⟨h, a₁, ha₁, hr⟩
    · have hmd := C₁.md
      cases md₁ with
      | norm wt =>
        obtain ⟨_, _, h3, _, h5⟩ := hmd
        have hpos := h3 hT
        obtain ⟨x, hx⟩ : ∃ x, cn₁ x ≠ 0 := by
          refine Classical.byContradiction fun hn => ?_
          have hz : ∀ x, cn₁ x = 0 := fun x => Classical.byContradiction fun e => hn ⟨x, e⟩
          have : ∀ k, sumTo k cn₁ = 0 := fun k => by
            induction k with
            | zero => rfl
            | succ k ih => simp [sumTo, ih, hz]
          rw [this] at hpos; omega
        obtain ⟨hxh, s, e⟩ := h5 x hx
        obtain ⟨g, hg, hr⟩ := hlive x s hxh e
        exact ⟨x, g, hg, hr⟩
      | last L s =>
        obtain ⟨g, hg, hr⟩ := hlive L s hmd.1 hmd.2.1
        exact ⟨L, g, hg, hr⟩
      | sema => exact hT.elim
      | fin => exact hT.elim
  obtain ⟨i, g, d, sl', hi, hg, hst⟩ := crowd_pick (P := P) (w := w₁) (sl := sl₁) (C₁.awake ha₁ (hrn.imp id fun x => by obtain ⟨_, _, g0, _, _, _, rfl⟩ := x; rfl)) hsome
  have Cd := C₁.at d
  have hSd : SitAt P (h == 0) X.ty X.Wg Anch Fin n₁ a₁ (w₁.at d) tag := hS.rely fun x => x
  by_cases e : i = h
  · subst e
    obtain rfl : g = a₁ := by rw [ha₁] at hi; exact (Option.some.inj hi).symm
    obtain ⟨a', w', es, md', tag', n', hgo, hes, hw', hmd', hS', hT', hlt⟩ := wait_own hA hg Cd hSd hT (fun e hF => hfin ⟨e, fun w' hw' => hF w' fun x => hw' x⟩)
    obtain ⟨C', ha', E', Ev'⟩ := Cd.own (a := g) (a' := a') hes hw' hmd'
    refine ⟨_, _, _, _, by rw [hst]; exact runT_crowd_go (sl := sl') hi hgo, ?_, _, a', w', sl', q₁, B₁, cn₁, md', tag', n', rfl, by simp, ha', hE.trans ((Ext.at V w₁ d).trans E'), hEv.trans ((Env.at X w₁ d).trans Ev'), C', hS', hT', rfl, rfl⟩
    rcases hlt with x | ⟨x, y⟩
    · exact .inl (by omega)
    · exact .inr ⟨by omega, by omega⟩
  · obtain ⟨gs', ops, w', q', B', cn', md', g', hrt, hsz', hh', E', Ev', C', hless, hcn, hle, hwake⟩ := Cd.by_step (sl := sl') hi e hg ha₁
    have hS' : SitAt P (h == 0) X.ty X.Wg Anch Fin n₁ a₁ w' tag := hSd.rely (Ev'.live C₁.on)
    obtain ⟨tag', n', hS2, hT2, htw, hhb⟩ : ∃ tag' n', SitAt P (h == 0) X.ty X.Wg Anch Fin n' (woken P g g' w' a₁) w' tag' ∧ TagMd (sumTo gs₁.size cn') tag' md' ∧ (tw (sumTo gs₁.size cn') tag' ≤ tw (sumTo gs₁.size cn₁) tag + 3 ∧ (cn' = cn₁ → tw (sumTo gs₁.size cn') tag' = tw (sumTo gs₁.size cn₁) tag)) ∧ hb n' tag' ≤ hb n₁ tag + 1 := by
      rcases hrn with hr | ⟨rfl, rfl, g0, hG0, hr0, ho0, rfl⟩
      · rw [woken_of_again (again_running w' (.inl hr))]
        have hnb : tag ≠ .blk := by
          rintro rfl
          obtain ⟨_, g0, _, _, _, rfl⟩ := hS
          cases hr
        refine ⟨tag, n₁, hS', ?_, ⟨?_, fun e => by rw [e]⟩, Nat.le_succ _⟩
        · cases tag <;> cases md₁ <;> cases md' <;> simp only [TagMd, MdLe] at hT hle ⊢ <;> first | omega | trivial | exact absurd rfl hnb
        · cases tag <;> simp only [tw] <;> (try split) <;> (try split) <;> omega
      · have hag : ({ g0 with status := .blocked } : Goroutine).again w' = g0 := by
          obtain ⟨fr, cs, st, dy, of⟩ := g0
          simp only at hr0 ho0
          subst hr0 ho0
          rfl
        have hG' := hG0.rely rlive_trans (w₁ := w') fun x => Ev'.live C₁.on x
        by_cases hw : woken P g g' w' { g0 with status := .blocked } = { g0 with status := .blocked }
        · rw [hw]
          have hns : md' ≠ .sema := by
            intro em
            have hms : md₁ ≠ .sema := fun e' => by subst e'; exact hT
            obtain ⟨m1, m2, m3⟩ := hwake em hms
            have : woken P g g' w' { g0 with status := .blocked } = g0 := by
              unfold woken
              rw [if_pos (by simp [m1, m2, m3])]
              exact hag
            rw [this] at hw
            have := congrArg Goroutine.status hw
            rw [hr0] at this; cases this
          refine ⟨.blk, 0, ⟨rfl, g0, hG', hr0, ho0, rfl⟩, ?_, ⟨by simp [tw], fun _ => rfl⟩, Nat.zero_le _⟩
          cases md₁ <;> cases md' <;> simp only [TagMd, MdLe] at hT hle ⊢ <;> first | omega | exact hns rfl | trivial
        · have : woken P g g' w' { g0 with status := .blocked } = g0 := by
            unfold woken at hw ⊢
            split
            · exact hag
            · rename_i hc; rw [if_neg hc] at hw; exact absurd rfl hw
          rw [this]
          refine ⟨.w3, 0, hG', ?_, ⟨by simp [tw], fun _ => rfl⟩, by simp [hb]⟩
          cases md₁ <;> cases md' <;> simp only [TagMd, MdLe] at hT hle ⊢ <;> first | omega | trivial
    refine ⟨_, _, _, _, by rw [hst]; exact hrt, ?_, gs', _, w', sl', q', B', cn', md', tag', n', rfl, hsz', hh', hE.trans ((Ext.at V w₁ d).trans E'), hEv.trans ((Env.at X w₁ d).trans Ev'), C', hS2, hT2, rfl, rfl⟩
    rcases hless with x | ⟨x, y⟩
    · exact .inl (by omega)
    · have hc : cn' = cn₁ := hcn.elim id fun z => by omega
      have := htw.2 hc
      exact .inr ⟨by omega, by omega⟩

/-- THE WAIT. -/
theorem CrewD.wait (hA : ∀ g w, Anch g w → ∃ m, Goes P (h == 0) (RLive X.ty X.Wg) D0 (W1 P (h == 0) X.ty X.Wg Anch Fin) m g w) (hAr : ∀ g w, Anch g w → g.status = .running) (hFr : ∀ g w, Fin g w → g.status = .running)
    (C : CrewD P X V h dh B cn T gs w q (.norm 0)) {a : Goroutine} {m : Nat} {sl : Option (Nat × Nat)} (ha : gs[h]? = some a) (hG : Goes P (h == 0) (RLive X.ty X.Wg) D0 Anch m a w) :
    ∃ N m' T', runNT P N (crowd gs w sl) T = (.next m', T') ∧ WEnd P X V h dh Fin gs.size w m' T' :=
  runs_lex (Inv := WInv P X V h dh Anch Fin gs.size w) (Done := WEnd P X V h dh Fin gs.size w) (fun α β m t hI => wait_step hA hAr hFr α β m t hI) _ _ _ T
    ⟨gs, a, w, sl, q, B, cn, .norm 0, .anch, m, rfl, rfl, ha, Ext.refl V w, Env.refl X w, C, hG, rfl, rfl, rfl⟩
end
end Cw
end
end Go.Proofs.YtggfcdhkgldbfaaDoor
