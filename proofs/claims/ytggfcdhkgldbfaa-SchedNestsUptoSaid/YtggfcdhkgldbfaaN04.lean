/-
  PARTS of a claim, merged by segs.py: NwH.
-/
import Derived.Test.YtggfcdhkgldbfaaN03
namespace Go.Proofs.Ytggfcdhkgldbfaa
set_option linter.unusedSimpArgs false
set_option linter.unusedVariables false

/-! ### NwH -/
section
namespace Cw
open Go Go.Conc
open Go.ConcN (sumTo upd upd_same upd_ne sumTo_upd sumTo_congr WgLive le_sumTo)
open Go.ConcR (KK wgBlock WgAt stA smA rd wr)

/-- What a step of the holder's may list. -/
structure EvM (X : Cx) (w w' : World) (e : Event) : Prop where
  touch : ∀ x, (MemAct.ofEvent e).touch? = some x → (X.Sh x.loc → x.kind ≠ .plain) ∧ (x.write = true → ∀ a, x.loc = .cell a → ¬ Prot X w a)
  norel : ∀ a, e.loc ≠ .mark (.release a)
  low : (MemAct.ofEvent e).low w'.heap.size
def Quiet (e : Event) : Prop := e.loc ≠ .mark .disable ∧ e.loc ≠ .mark .enable
/-- The holder's guarantee. -/
structure HD (X : Cx) (w w' : World) (es : Array Event) : Prop where
  env : Env X w w'
  ch : ∀ c, X.Ch c → w'.heap[c]? = w.heap[c]?
  wg : ∀ b, X.on b → w'.heap[b]? = w.heap[b]?
  ev : ∀ e ∈ es, EvM X w w' e

theorem runs_lex {P : Program} {Inv : Nat → Nat → Machine → Trace → Prop} {Done : Machine → Trace → Prop}
    (step : ∀ a b m t, Inv a b m t → Done m t ∨ ∃ m' ops a' b', stepT P m = (.next m', ops) ∧ (a' < a ∨ (a' = a ∧ b' < b)) ∧ Inv a' b' m' (t ++ ops)) :
    ∀ a b m t, Inv a b m t → ∃ N m' t', runNT P N m t = (.next m', t') ∧ Done m' t' := by
  intro a
  induction a using Nat.strongRecOn with
  | _ a iha =>
    intro b
    induction b using Nat.strongRecOn with
    | _ b ihb =>
      intro m t h
      rcases step a b m t h with hd | ⟨m', ops, a', b', hs, hlt, hI⟩
      · exact ⟨0, m, t, rfl, hd⟩
      · obtain ⟨N, m'', t'', hr, hd⟩ : ∃ N m'' t'', runNT P N m' (t ++ ops) = (.next m'', t'') ∧ Done m'' t'' := by
          rcases hlt with hlt | ⟨rfl, hlt⟩
          · exact iha a' hlt b' m' (t ++ ops) hI
          · exact ihb b' hlt m' (t ++ ops) hI
        exact ⟨N + 1, m'', t'', by simp only [runNT, hs]; exact hr, hd⟩

section
variable {P : Program} {X : Cx} {V : Nat → Prop} {h dh : Nat} {B : Nat → By} {Rd : Nat → Loc → Prop} {cn : Nat → Nat} {T : Trace} {gs : Array Goroutine} {w : World} {q : Nat → Nat × Nat}

theorem CrewM.at {md : Nat → Md} (C : CrewM P X V h dh B Rd cn T gs w q md) (d : Nat) : CrewM P X V h dh B Rd cn T gs (w.at d) q md :=
  ⟨C.hlt, fun i g hi hg => (C.idle i g hi hg).env (Env.at X w d) rfl fun _ x => x, C.seats, C.inj, C.out, C.hdeaf, C.rdp, C.rds, C.st, C.sh, C.shlow, C.exlow, fun b o => (C.mdok b o).same rfl, C.few, C.volD, C.volC, C.past⟩
theorem Crew.at (C : Crew P X V h dh B Rd cn T gs w q) (d : Nat) : Crew P X V h dh B Rd cn T gs (w.at d) q := CrewM.at C d
/-- A BYSTANDER's STEP while nobody waits. -/
theorem Crew.by_step (C : Crew P X V h dh B Rd cn T gs w q) {i : Nat} {g : Goroutine} {sl : Option (Nat × Nat)} (hi : gs[i]? = some g) (hih : i ≠ h) (hrun : g.status = .running) {a : Goroutine} (ha : gs[h]? = some a)
    (hh : ∀ w', Ext V w w' → a.again w' = a) (hO : ∀ c z home g₂ L, B i = .seat c z home → LOk X w Rd i L → AtS P (i == 0) c z home L g g₂ → offersAt a c true = []) :
    ∃ (gs' : Array Goroutine) (ops : Array MemOp) (w' : World) (q' : Nat → Nat × Nat) (Rd' : Nat → Loc → Prop) (B' : Nat → By) (cn' : Nat → Nat),
      runT P (crowd gs w sl) i = (.next (crowd gs' w' sl), ops) ∧ gs'.size = gs.size ∧ gs'[h]? = some a ∧ (∀ x, x ≠ i → q' x = q x) ∧ Ext V w w' ∧ Env X w w' ∧ Later h B cn B' cn' ∧ ((∀ x, x ≠ h → B x = .gone) → w' = w) ∧
      Crew P X V h dh B' Rd' cn' (T ++ ops) gs' w' q' ∧ Less gs.size q' q ∧ (∀ c z home, B i = .seat c z home → (q' i).2 = 0 → ∃ g₂ L, LOk X w Rd i L ∧ AtS P (i == 0) c z home L g g₂) := by
  obtain ⟨gs', ops, w', q', Rd', B', cn', md', a', h1, h2, ⟨h3, h3'⟩, h4, h5, h6, h7, h8, h9, h10, h11, _, h13, h14, _⟩ := CrewM.by_step C (sl := sl) hi hih hrun ha hO
  have ea : a' = a := by
    rcases h3' with e | e
    · exact e
    · rw [e]; exact hh w' h5
  have em : md' = fun _ => .norm 0 := by
    funext b
    by_cases o : X.on b
    · have := (h13 b o).2
      cases e : md' b with
      | norm wt => rw [e] at this; rw [this.1]
      | last L s => rw [e] at this; cases this
      | sema => rw [e] at this; exact this.elim
      | fin => rw [e] at this; exact this.elim
    · exact h14 b o
  rw [em] at h9
  rw [ea] at h3
  exact ⟨gs', ops, w', q', Rd', B', cn', h1, h2, h3, h4, h5, h6, h7, h8, h9, h10, h11⟩

/-- The holder's own step. -/
theorem CrewM.own {md : Nat → Md} (C : CrewM P X V h dh B Rd cn T gs w q md) {a a' : Goroutine} {w' : World} {es : Array Event} (hd : HD X w w' es) :
    CrewM P X V h (deafBehind dh es) B Rd cn (T ++ MemOp.ofEvents h a.frame.fn a.frame.place es) ((gs.map (woken P a a' w')).setIfInBounds h a') w' q md ∧ ((gs.map (woken P a a' w')).setIfInBounds h a')[h]? = some a' := by
  have hlt := C.hlt
  have hops : ∀ op ∈ MemOp.ofEvents h a.frame.fn a.frame.place es, op.g = h := fun op hop => by obtain ⟨e, _, rfl⟩ := Go.Conc.mem_ofEvents hop; rfl
  have hfix : ∀ (x : Nat) (y : Goroutine), x ≠ h → gs[x]? = some y → y.again w' = y := by
    intro x y hx hy
    rcases (C.idle x y hx hy).status with hs | hs | ⟨c, z, home, g₂, e, rfl⟩
    · exact again_running w' (.inl hs)
    · exact again_running w' (.inr hs)
    · obtain ⟨hc, k, hk⟩ := C.seats x c z home hx e
      exact again_recv_open (by rw [hd.ch c hc]; exact hk)
  refine ⟨⟨by simpa using hlt, fun x y hx hy => ?_, fun i c z home hi e => ?_, C.inj, fun j hj => ?_, ?_, fun g l hl => ?_, C.rds, fun x hx => ?_, C.sh, fun x hx => Nat.lt_of_lt_of_le (C.shlow x hx) hd.env.size, fun b hb => Nat.lt_of_lt_of_le (C.exlow b hb) hd.env.size, fun b o => ?_, fun b o => by simpa using C.few b o, C.volD, C.volC, ?_⟩, Array.getElem?_setIfInBounds_self_of_lt (by simpa using hlt)⟩
  · rw [Array.getElem?_setIfInBounds_ne (fun e => hx e.symm), Array.getElem?_map] at hy
    obtain ⟨y₀, hy₀, rfl⟩ := Option.map_eq_some_iff.1 hy
    rw [woken_of_again (hfix x y₀ hx hy₀)]
    exact (C.idle x y₀ hx hy₀).env hd.env (Deaf_other T (fun z => hx z.symm) _ hops) fun _ x => x
  · obtain ⟨hc, k, hk⟩ := C.seats i c z home hi e
    exact ⟨hc, k, by rw [hd.ch c hc]; exact hk⟩
  · simp only [Array.size_setIfInBounds, Array.size_map] at hj
    obtain ⟨h1, h2, h3⟩ := C.out j hj
    exact ⟨(Deaf_other T (by omega) _ hops).trans h1, h2, h3⟩
  · rw [Deaf_own, C.hdeaf]
  · obtain ⟨x, rfl, hx⟩ := C.rdp g l hl
    exact ⟨x, rfl, (hd.env.prot hx).2⟩
  · obtain ⟨h1, h2, v, h3⟩ := C.st x hx
    exact ⟨Nat.lt_of_lt_of_le h1 hd.env.size, h2, v, by rw [hd.env.st x hx]; exact h3⟩
  · simp only [Array.size_setIfInBounds, Array.size_map]
    exact (C.mdok b o).same (hd.wg b o)
  · refine C.past.appH hd.env.size hops (fun x => x.1 rfl) (fun op hop b hb => ?_) (fun op hop x e => ?_) (fun op hop => ?_)
    · obtain ⟨e, he, rfl⟩ := Go.Conc.mem_ofEvents hop
      obtain ⟨h1, h2⟩ := (hd.ev e he).touch b hb
      refine ⟨h1, fun hw g hg hr => ?_⟩
      obtain ⟨x, hx, hp⟩ := C.rdp g _ hr
      exact h2 hw x hx hp
    · obtain ⟨ev, he, rfl⟩ := Go.Conc.mem_ofEvents hop
      refine (hd.ev ev he).norel x ?_
      obtain ⟨loc, wr, sy⟩ := ev
      cases loc with
      | mark m => simp only [MemAct.ofEvent, MemAct.mark.injEq] at e; rw [e]
      | obj c => cases wr <;> cases sy <;> simp [MemAct.ofEvent] at e
      | _ => simp [MemAct.ofEvent] at e
    · obtain ⟨e, he, rfl⟩ := Go.Conc.mem_ofEvents hop
      exact (hd.ev e he).low

/-- What a walk of the holder's may suffer. -/
def Rely (V : Nat → Prop) (B : Nat → By) (h : Nat) (R : World → World → Prop) : Prop := ∀ w w', Ext V w w' → ((∀ x, x ≠ h → B x = .gone) → ∃ d, w' = w.at d) → R w w'
theorem Rely.le {B' : Nat → By} {R : World → World → Prop} (H : Rely V B h R) (hl : ByLe B B') : Rely V B' h R := fun w w' E k => H w w' E fun hg => k fun x hx => by
  rcases hl x with e | ⟨⟨s, hs⟩, _⟩
  · rw [e]; exact hg x hx
  · rw [hg x hx] at hs; cases hs
theorem rely_ext (V : Nat → Prop) (B : Nat → By) (h : Nat) : Rely V B h (Ext V) := fun _ _ E _ => E
theorem ext_refl_of {R : World → World → Prop} (H : Rely V B h R) (w : World) : R w w := H w w (Ext.refl V w) fun _ => ⟨w.drawn, rfl⟩
theorem ext_at_of {R : World → World → Prop} (H : Rely V B h R) (w : World) (d : Nat) : R w (w.at d) := H w _ (Ext.at V w d) fun _ => ⟨d, rfl⟩

/-- THE HOLDER's WALK, ON WHATEVER TAPE. -/
theorem Crew.hold_walk {R : World → World → Prop} {D : World → World → Array Event → Prop} {Stop : Goroutine → World → Prop} (hR : Rely V B h R) (hRt : ∀ a b c, R a b → R b c → R a c) (hD : ∀ w w' es, D w w' es → HD X w w' es ∧ ∀ e ∈ es, Quiet e)
    {n : Nat} {a : Goroutine} {sl : Option (Nat × Nat)} (ha : gs[h]? = some a) (C : Crew P X V h dh B Rd cn T gs w q) (hG : Goes P (h == 0) R D Stop n a w) :
    ∃ (N : Nat) (gs' : Array Goroutine) (a' : Goroutine) (w' : World) (sl' : Option (Nat × Nat)) (T' : Trace) (q' : Nat → Nat × Nat) (Rd' : Nat → Loc → Prop) (B' : Nat → By) (cn' : Nat → Nat),
      runNT P N (crowd gs w sl) T = (.next (crowd gs' w' sl'), T') ∧ gs'.size = gs.size ∧ gs'[h]? = some a' ∧ Stop a' w' ∧ Later h B cn B' cn' ∧ Crew P X V h dh B' Rd' cn' T' gs' w' q' ∧ Env X w w' := by
  obtain ⟨N, m', T', hr, gs', a', w', sl', q', Rd', B', cn', rfl, hsz, ha', hS, hle, C', hE⟩ := runs_lex (P := P)
    (Inv := fun α β m t => ∃ gs₁ a₁ w₁ sl₁ q₁ n₁ Rd₁ B₁ cn₁, m = crowd gs₁ w₁ sl₁ ∧ gs₁.size = gs.size ∧ gs₁[h]? = some a₁ ∧ Later h B cn B₁ cn₁ ∧ Crew P X V h dh B₁ Rd₁ cn₁ t gs₁ w₁ q₁ ∧ Env X w w₁ ∧ Goes P (h == 0) R D Stop n₁ a₁ w₁ ∧ α = sumTo gs₁.size (fun i => (q₁ i).1) ∧ β = n₁ + sumTo gs₁.size (fun i => (q₁ i).2))
    (Done := fun m t => ∃ gs₁ a₁ w₁ sl₁ q₁ Rd₁ B₁ cn₁, m = crowd gs₁ w₁ sl₁ ∧ gs₁.size = gs.size ∧ gs₁[h]? = some a₁ ∧ Stop a₁ w₁ ∧ Later h B cn B₁ cn₁ ∧ Crew P X V h dh B₁ Rd₁ cn₁ t gs₁ w₁ q₁ ∧ Env X w w₁)
    (fun α β m t ⟨gs₁, a₁, w₁, sl₁, q₁, n₁, Rd₁, B₁, cn₁, hm, hsz, ha₁, hle, C₁, hE₁, hG₁, hα, hβ⟩ => by
      subst hm
      have hR₁ := hR.le hle.le
      cases n₁ with
      | zero => exact .inl ⟨gs₁, a₁, w₁, sl₁, q₁, Rd₁, B₁, cn₁, rfl, hsz, ha₁, hG₁ w₁ (ext_refl_of hR₁ w₁), hle, C₁, hE₁⟩
      | succ n₁ =>
        rcases hG₁ with hstop | ⟨hrun, hstep⟩
        · exact .inl ⟨gs₁, a₁, w₁, sl₁, q₁, Rd₁, B₁, cn₁, rfl, hsz, ha₁, hstop w₁ (ext_refl_of hR₁ w₁), hle, C₁, hE₁⟩
        refine .inr ?_
        obtain ⟨i, g, d, sl', hi, hg, hst⟩ := crowd_pick (P := P) (w := w₁) (sl := sl₁) (C₁.awake ha₁ (.inl hrun)) ⟨h, a₁, ha₁, hrun⟩
        have Cd := C₁.at d
        by_cases e : i = h
        · subst e
          obtain rfl : g = a₁ := by rw [ha₁] at hi; exact (Option.some.inj hi).symm
          have hs := hstep (w₁.at d) (ext_at_of hR₁ w₁ d)
          cases hgo : stepG P (i == 0) g (w₁.at d) with
          | go a' w' es =>
            rw [hgo, goes_go] at hs
            obtain ⟨hd, hG'⟩ := hs
            obtain ⟨hd1, hd2⟩ := hD _ _ _ hd
            obtain ⟨C', ha'⟩ := CrewM.own Cd (a := g) (a' := a') hd1
            rw [deafBehind_still hd2] at C'
            exact ⟨_, _, α, n₁ + sumTo gs₁.size (fun i => (q₁ i).2), by rw [hst]; exact runT_crowd_go (sl := sl') hi hgo, .inr ⟨rfl, by omega⟩, _, a', w', sl', q₁, n₁, Rd₁, B₁, cn₁, rfl, by simpa using hsz, ha', hle, C', hE₁.trans ((Env.at X w₁ d).trans hd1.env), hG', by simpa using hα, by simp⟩
          | _ => rw [hgo] at hs; exact hs.elim
        · obtain ⟨gs', ops, w', q', Rd', B', cn', hrt, hsz', hsp, _, E, hEb, hle', hgone, C', hlt, _⟩ := Cd.by_step (sl := sl') hi e hg ha₁
            (fun w' _ => again_running w' (.inl hrun)) (fun c z home g₂ L _ _ _ => offersAt_of_not_blocked (by rw [hrun]; simp) _ _)
          refine ⟨_, _, sumTo gs'.size (fun i => (q' i).1), (n₁ + 1) + sumTo gs'.size (fun i => (q' i).2), by rw [hst]; exact hrt, ?_, gs', a₁, w', sl', q', n₁ + 1, Rd', B', cn', rfl, hsz'.trans hsz, hsp, hle.trans hle', C', hE₁.trans ((Env.at X w₁ d).trans hEb),
            Goes.rely hRt (.inr ⟨hrun, hstep⟩) (hRt _ _ _ (ext_at_of hR₁ w₁ d) (hR₁ _ _ E fun hx => ⟨d, hgone hx⟩)), rfl, rfl⟩
          rw [hsz']
          rcases hlt with x | ⟨x, y⟩
          · exact .inl (by omega)
          · exact .inr ⟨by omega, by omega⟩)
    _ _ _ T ⟨gs, a, w, sl, q, n, Rd, B, cn, rfl, rfl, ha, Later.refl h B cn, C, Env.refl X w, hG, rfl, rfl⟩
  exact ⟨N, gs', a', w', sl', T', q', Rd', B', cn', hr, hsz, ha', hS, hle, C', hE⟩

/-- THE HOLDER, RUNNING, IS PICKED IN THE END. -/
theorem Crew.picked {R : World → World → Prop} (hR : Rely V B h R) (hRt : ∀ a b c, R a b → R b c → R a c) {a : Goroutine} {sl : Option (Nat × Nat)} (ha : gs[h]? = some a) (hrun : a.status = .running) (C : Crew P X V h dh B Rd cn T gs w q) :
    ∃ (N : Nat) (gs' : Array Goroutine) (w' : World) (d : Nat) (sl' sl'' : Option (Nat × Nat)) (T' : Trace) (q' : Nat → Nat × Nat) (Rd' : Nat → Loc → Prop) (B' : Nat → By) (cn' : Nat → Nat),
      runNT P N (crowd gs w sl) T = (.next (crowd gs' w' sl'), T') ∧ stepT P (crowd gs' w' sl') = runT P (crowd gs' (w'.at d) sl'') h ∧ gs'.size = gs.size ∧ gs'[h]? = some a ∧ R w (w'.at d) ∧ Ext V w (w'.at d) ∧ Env X w (w'.at d) ∧ Later h B cn B' cn' ∧ Crew P X V h dh B' Rd' cn' T' gs' (w'.at d) q' := by
  obtain ⟨N, m', T', hr, gs', w', d, sl', sl'', q', Rd', B', cn', rfl, hst, hsz, ha', hRw, hE, hEv, hle, C'⟩ := runs_lex (P := P)
    (Inv := fun α β m t => ∃ gs₁ w₁ sl₁ q₁ Rd₁ B₁ cn₁, m = crowd gs₁ w₁ sl₁ ∧ gs₁.size = gs.size ∧ gs₁[h]? = some a ∧ R w w₁ ∧ Ext V w w₁ ∧ Env X w w₁ ∧ Later h B cn B₁ cn₁ ∧ Crew P X V h dh B₁ Rd₁ cn₁ t gs₁ w₁ q₁ ∧ α = sumTo gs₁.size (fun i => (q₁ i).1) ∧ β = sumTo gs₁.size (fun i => (q₁ i).2))
    (Done := fun m t => ∃ gs₁ w₁ d sl₁ sl₂ q₁ Rd₁ B₁ cn₁, m = crowd gs₁ w₁ sl₁ ∧ stepT P (crowd gs₁ w₁ sl₁) = runT P (crowd gs₁ (w₁.at d) sl₂) h ∧ gs₁.size = gs.size ∧ gs₁[h]? = some a ∧ R w (w₁.at d) ∧ Ext V w (w₁.at d) ∧ Env X w (w₁.at d) ∧ Later h B cn B₁ cn₁ ∧ Crew P X V h dh B₁ Rd₁ cn₁ t gs₁ (w₁.at d) q₁)
    (fun α β m t ⟨gs₁, w₁, sl₁, q₁, Rd₁, B₁, cn₁, hm, hsz, ha₁, hRw, hE, hEv, hle, C₁, hα, hβ⟩ => by
      subst hm
      have hR₁ := hR.le hle.le
      obtain ⟨i, g, d, sl', hi, hg, hst⟩ := crowd_pick (P := P) (w := w₁) (sl := sl₁) (C₁.awake ha₁ (.inl hrun)) ⟨h, a, ha₁, hrun⟩
      have Cd := C₁.at d
      by_cases e : i = h
      · subst e
        exact .inl ⟨gs₁, w₁, d, sl₁, sl', q₁, Rd₁, B₁, cn₁, rfl, hst, hsz, ha₁, hRt _ _ _ hRw (ext_at_of hR₁ w₁ d), hE.trans (Ext.at V w₁ d), hEv.trans (Env.at X w₁ d), hle, Cd⟩
      · obtain ⟨gs', ops, w', q', Rd', B', cn', hrt, hsz', hsp, _, E, Ev, hle', hgone, C', hlt, _⟩ := Cd.by_step (sl := sl') hi e hg ha₁
          (fun w' _ => again_running w' (.inl hrun)) (fun c z home g₂ L _ _ _ => offersAt_of_not_blocked (by rw [hrun]; simp) _ _)
        refine .inr ⟨_, _, sumTo gs'.size (fun i => (q' i).1), sumTo gs'.size (fun i => (q' i).2), by rw [hst]; exact hrt, ?_, gs', w', sl', q', Rd', B', cn', rfl, hsz'.trans hsz, hsp, hRt _ _ _ hRw (hRt _ _ _ (ext_at_of hR₁ w₁ d) (hR₁ _ _ E fun hx => ⟨d, hgone hx⟩)),
          hE.trans ((Ext.at V w₁ d).trans E), hEv.trans ((Env.at X w₁ d).trans Ev), hle.trans hle', C', rfl, rfl⟩
        rw [hsz']
        rcases hlt with x | ⟨x, y⟩
        · exact .inl (by omega)
        · exact .inr ⟨by omega, by omega⟩)
    _ _ _ T ⟨gs, w, sl, q, Rd, B, cn, rfl, rfl, ha, ext_refl_of hR w, Ext.refl V w, Env.refl X w, Later.refl h B cn, C, rfl, rfl⟩
  exact ⟨N, gs', w', d, sl', sl'', T', q', Rd', B', cn', hr, hst, hsz, ha', hRw, hE, hEv, hle, C'⟩

/-- ONE STEP OF THE HOLDER's, which may say 'disable' or 'enable'. -/
theorem Crew.hold_one {R : World → World → Prop} (hR : Rely V B h R) (hRt : ∀ a b c, R a b → R b c → R a c) {Q : Goroutine → World → Prop} {dh' : Nat} {a : Goroutine} {sl : Option (Nat × Nat)} (ha : gs[h]? = some a) (hrun : a.status = .running)
    (C : Crew P X V h dh B Rd cn T gs w q) (hs : ∀ w₁, R w w₁ → ∃ a' w' es, stepG P (h == 0) a w₁ = .go a' w' es ∧ HD X w₁ w' es ∧ deafBehind dh es = dh' ∧ Q a' w') :
    ∃ (N : Nat) (gs' : Array Goroutine) (a' : Goroutine) (w' : World) (sl' : Option (Nat × Nat)) (T' : Trace) (q' : Nat → Nat × Nat) (Rd' : Nat → Loc → Prop) (B' : Nat → By) (cn' : Nat → Nat),
      runNT P N (crowd gs w sl) T = (.next (crowd gs' w' sl'), T') ∧ gs'.size = gs.size ∧ gs'[h]? = some a' ∧ Q a' w' ∧ Later h B cn B' cn' ∧ Crew P X V h dh' B' Rd' cn' T' gs' w' q' ∧ Env X w w' := by
  obtain ⟨N, gs₁, w₁, d, sl₁, sl₂, T₁, q₁, Rd₁, B₁, cn₁, hr, hst, hsz, ha₁, hRw, _, hEv, hle, C₁⟩ := C.picked (sl := sl) hR hRt ha hrun
  obtain ⟨a', w', es, hgo, hd, hdf, hQ⟩ := hs _ hRw
  obtain ⟨C', ha'⟩ := CrewM.own C₁ (a := a) (a' := a') hd
  exact ⟨N + 1, _, a', w', sl₂, _, q₁, Rd₁, B₁, cn₁, runNT_succ_of hr (by rw [hst]; exact runT_crowd_go (sl := sl₂) ha₁ hgo), by simpa using hsz, ha', hQ, hle, hdf ▸ C', hEv.trans hd.env⟩

theorem block_of_cell {w : World} {a : Addr} {v : Value} (hc : w.cell? a = some v) : a.block < w.heap.size := by
  unfold World.cell? at hc
  cases e : w.heap[a.block]? with
  | none => rw [e] at hc; cases hc
  | some o => exact (Array.getElem?_eq_some_iff.1 e).1
theorem Later.seat {B B' : Nat → By} {cn cn' : Nat → Nat} (H : Later h B cn B' cn') {i c : Nat} {z : Value} {home : Hm} : B' i = .seat c z home ↔ B i = .seat c z home := H.le.seat

/-- A go STATEMENT OF THE HOLDER's, no group being at work: the child is on its way to a seat of its own. -/
theorem Crew.hire {R : World → World → Prop} (hR : Rely V B h R) (hRt : ∀ a b c, R a b → R b c → R a c) {a a' child : Goroutine} {sl : Option (Nat × Nat)} (ha : gs[h]? = some a) (hrun : a.status = .running) (C : Crew P X V h 0 B Rd cn T gs w q)
    (hgo : ∀ w₁, R w w₁ → stepG P (h == 0) a w₁ = .spawn a' child w₁ #[]) {c : Nat} {z : Value} {home : Hm} {L : Addr → Value → Prop} {n : Nat} (hoff : ¬ X.on (X.wg gs.size)) (hch : X.Ch c) (hc : ∃ k, w.heap[c]? = some (.chan 0 #[] false k k false))
    (hnew : ∀ i z home, i ≠ h → B i ≠ .seat c z home) (hL : ∀ a v, L a v → w.cell? a = some v ∧ Prot X w a ∧ ¬ X.Sh (.cell a)) (hW : Way P X.Bx false c z home n L child) :
    ∃ (N : Nat) (gs' : Array Goroutine) (w' : World) (sl' : Option (Nat × Nat)) (T' : Trace) (q' : Nat → Nat × Nat) (Rd' : Nat → Loc → Prop) (B₁ : Nat → By) (cn' : Nat → Nat),
      runNT P N (crowd gs w sl) T = (.next (crowd gs' w' sl'), T') ∧ gs'.size = gs.size + 1 ∧ gs'[h]? = some a' ∧ R w w' ∧ Ext V w w' ∧ Env X w w' ∧ Later h B cn B₁ cn' ∧ Crew P X V h 0 (upd B₁ gs.size (.seat c z home)) Rd' cn' T' gs' w' q' := by
  obtain ⟨N, gs₁, w₁, d, sl₁, sl₂, T₁, q₁, Rd₁, B₁, cn₁, hr, hst, hsz, ha₁, hRw, hE, hEv, hle, C₁⟩ := C.picked (sl := sl) hR hRt ha hrun
  have hlt := C₁.hlt
  generalize hw2 : w₁.at d = w₂ at *
  have hrt := runT_crowd_spawn (P := P) (sl := sl₂) ha₁ (hgo w₂ hRw)
  generalize hu : (#[{ g := h, fn := a.frame.fn, pos := a.frame.place, act := .go gs₁.size }, { g := gs₁.size, fn := child.frame.fn, pos := a.frame.place, act := .start }] : Trace) = u
  have hpush : ((MemOp.ofEvents h a.frame.fn a.frame.place #[]).push { g := h, fn := a.frame.fn, pos := a.frame.place, act := .go gs₁.size } |>.push { g := gs₁.size, fn := child.frame.fn, pos := a.frame.place, act := .start }) = u := by
    subst hu; rfl
  rw [hpush] at hrt
  have hq : ∀ g, ∀ op ∈ u, ∀ d, deafStep g d op = d := by
    intro g op hop d
    subst hu
    simp only [List.mem_toArray, List.mem_cons, List.not_mem_nil, or_false] at hop
    rcases hop with rfl | rfl <;> rfl
  have hD : ∀ x, Deaf (T₁ ++ u) x = Deaf T₁ x := fun x => Deaf_quiet (hq x)
  obtain ⟨o1, o2, _⟩ := C₁.out gs₁.size (Nat.le_refl _)
  have hL₂ : ∀ a v, L a v → w₂.cell? a = some v ∧ Prot X w₂ a ∧ ¬ X.Sh (.cell a) := fun x v hx => by
    obtain ⟨y1, y2, y3⟩ := hL x v hx
    exact ⟨by rw [(hEv.prot y2).1]; exact y1, (hEv.prot y2).2, y3⟩
  have hc₂ : ∃ k, w₂.heap[c]? = some (.chan 0 #[] false k k false) := by
    obtain ⟨k, hk⟩ := hc
    exact ⟨k, by rw [hE.same c (Array.getElem?_eq_some_iff.1 hk).1 (C.volC c hch)]; exact hk⟩
  have p := C₁.past.hire (c := gs₁.size) C₁.hdeaf o1 o2 (fun l => ∃ x v, l = .cell x ∧ L x v) (fun l ⟨x, v, e, hx⟩ => by
    subst e
    exact ⟨(hL₂ x v hx).2.2, rfl, block_of_cell (hL₂ x v hx).1⟩) a.frame.fn a.frame.place child.frame.fn
  rw [hu] at p
  have hB : ∀ i, i ≠ gs.size → upd B₁ gs.size (.seat c z home) i = B₁ i := fun i hi => upd_ne B₁ _ hi
  refine ⟨N + 1, _, w₂, sl₂, T₁ ++ u, upd q₁ gs.size (0, n + 1), fun g l => Rd₁ g l ∨ (g = gs₁.size ∧ ∃ x v, l = .cell x ∧ L x v), B₁, cn₁, runNT_succ_of hr (by rw [hst]; exact hrt), by simp [hsz], (by rw [Array.getElem?_push, if_neg (by simp; omega)]; exact Array.getElem?_setIfInBounds_self_of_lt hlt), hRw, hE, hEv, hle, ?_⟩
  refine ⟨by simp; omega, fun x y hx hy => ?_, fun i c' z' home' hi e => ?_, fun i i' c' z₁ z₂ h₁ h₂ hi hi' e e' => ?_, fun j hj => ?_, by rw [hD]; exact C₁.hdeaf, fun g l hl => ?_, fun g l hg hl => ?_, C₁.st, C₁.sh, C₁.shlow, C₁.exlow, fun b o => ?_, fun b o => ?_, fun i s hi e => ?_, C₁.volC, p.fewer fun g hg => ?_⟩
  · by_cases ex : x = gs.size
    · subst ex
      rw [Array.getElem?_push, if_pos (by simp [hsz])] at hy
      obtain rfl := Option.some.inj hy
      rw [upd_same, upd_same]
      have hb : (gs.size == 0) = false := by rw [beq_eq_false_iff_ne]; omega
      refine ⟨rfl, L, fun x v hx => ⟨(hL₂ x v hx).1, (hL₂ x v hx).2.1, .inr ⟨hsz.symm, x, v, rfl, hx⟩⟩, .inl ⟨n, rfl, ?_⟩⟩
      rw [hb]; exact hW
    · have hxl : x < gs₁.size := by
        have := (Array.getElem?_eq_some_iff.1 hy).1
        simp at this; omega
      rw [Array.getElem?_push, if_neg (by simp; omega), Array.getElem?_setIfInBounds_ne (fun z => hx z.symm)] at hy
      rw [upd_ne q₁ _ ex, hB x ex]
      exact (C₁.idle x y hx hy).env (Env.refl X w₂) (hD x) fun _ z => .inl z
  · by_cases ei : i = gs.size
    · subst ei
      rw [upd_same] at e
      obtain ⟨rfl, rfl, rfl⟩ := By.seat.inj e
      exact ⟨hch, hc₂⟩
    · rw [hB i ei] at e
      exact C₁.seats i c' z' home' hi e
  · by_cases e1 : i = gs.size <;> by_cases e2 : i' = gs.size
    · rw [e1, e2]
    · subst e1
      rw [upd_same] at e; rw [hB i' e2] at e'
      obtain ⟨rfl, rfl, rfl⟩ := By.seat.inj e
      exact absurd (hle.seat.1 e') (hnew i' _ _ hi')
    · subst e2
      rw [upd_same] at e'; rw [hB i e1] at e
      obtain ⟨rfl, rfl, rfl⟩ := By.seat.inj e'
      exact absurd (hle.seat.1 e) (hnew i _ _ hi)
    · rw [hB i e1] at e; rw [hB i' e2] at e'
      exact C₁.inj i i' c' z₁ z₂ h₁ h₂ hi hi' e e'
  · have hj' : gs₁.size + 1 ≤ j := by simpa using hj
    obtain ⟨h1, h2, h3⟩ := C₁.out j (by omega)
    refine ⟨by rw [hD]; exact h1, fun l hl => ?_, by rw [hB j (by omega)]; exact h3⟩
    rcases hl with hl | ⟨hl, _⟩
    · exact h2 l hl
    · omega
  · rcases hl with hl | ⟨_, x, v, rfl, hx⟩
    · exact C₁.rdp g l hl
    · exact ⟨x, rfl, (hL₂ x v hx).2.1⟩
  · by_cases eg : g = gs.size
    · subst eg; exact ⟨c, z, home, upd_same _ _ _⟩
    · rcases hl with hl | ⟨hl, _⟩
      · rw [hB g eg]; exact C₁.rds g l hg hl
      · omega
  · have hsm : sm X gs₁.size.succ cn₁ b = sm X gs₁.size cn₁ b := by
      have hne : X.wg gs₁.size ≠ b := fun e => hoff (by rw [← hsz, e]; exact o)
      simp [sm, sumTo, hne]
    simp only [Array.size_push, Array.size_setIfInBounds]
    exact (C₁.mdok b o).others hsm (fun j hj => hB j fun e => hoff (by rw [← e, hj]; exact o)) (fun _ _ => rfl) rfl
  · have hsm : sm X gs₁.size.succ cn₁ b = sm X gs₁.size cn₁ b := by
      have hne : X.wg gs₁.size ≠ b := fun e => hoff (by rw [← hsz, e]; exact o)
      simp [sm, sumTo, hne]
    simp only [Array.size_push, Array.size_setIfInBounds]
    have := C₁.few b o
    rw [← hsm] at this
    exact this
  · by_cases ei : i = gs.size
    · subst ei; rw [upd_same] at e; cases e
    · rw [hB i ei] at e; exact C₁.volD i s hi e
  · obtain ⟨hg, c', z', home', e⟩ := hg
    by_cases eg : g = gs.size
    · exact .inr (by omega)
    · rw [hB g eg] at e
      exact .inl ⟨hg, c', z', home', e⟩
end
end Cw
end
end Go.Proofs.Ytggfcdhkgldbfaa
