/-
  PARTS of a claim, merged by segs.py: NwZ, NwE, NwD.
-/
import Derived.Test.YtggfcdhkgldbfaaN06
import Derived.Conc.LeavingOf
import Derived.Conc.WgGenN2
namespace Go.Proofs.Ytggfcdhkgldbfaa
set_option linter.unusedSimpArgs false
set_option linter.unusedVariables false

/-! ### NwZ -/
section
namespace Cw
open Go Go.Conc
open Go.ConcN (sumTo upd upd_same upd_ne sumTo_upd sumTo_congr WgLive le_sumTo)
open Go.ConcR (KK wgBlock WgAt stA smA rd wr mk)

section
variable {P : Program} {X X' : Cx} {V V' : Nat → Prop} {h dh : Nat} {B : Nat → By} {Rd : Nat → Loc → Prop} {cn cn' : Nat → Nat} {T : Trace} {gs : Array Goroutine} {w : World} {q : Nat → Nat × Nat} {md : Nat → Md}

theorem prot_more (hSt : ∀ a, X.St a → X'.St a) (hBx : X'.Bx = X.Bx) (hEx : X'.Ex = X.Ex) {a : Addr} (hp : Prot X w a) : Prot X' w a := by
  rcases hp with hp | ⟨h1, h2, v, ty, h3, h4, h5⟩
  · exact .inl (hSt a hp)
  · exact .inr ⟨h1, h2, v, ty, h3, by rw [hBx]; exact h4, by rw [hEx]; exact h5⟩

/-- More still cells, more channels; the groups said anew. -/
theorem CrewM.recast (C : CrewM P X V h dh B Rd cn T gs w q md) (hSt : ∀ a, X.St a → X'.St a) (hBx : X'.Bx = X.Bx) (hEx : X'.Ex = X.Ex) (hSh : X'.Sh = X.Sh) (hCh : ∀ c, X.Ch c → X'.Ch c) (hty : X'.ty = X.ty)
    (hst : ∀ a, X'.St a → ¬ X'.on a.block ∧ ∃ v, w.cell? a = some v ∧ NotFn v) (hV : ∀ c, X'.Ch c → ¬ V' c) (hsh : ∀ a : Addr, X'.on a.block → X'.Sh (.cell a))
    (hdn : ∀ i s, i ≠ h → B i = .dn s → X'.wg i = X.wg i ∧ X'.on (X.wg i) ∧ V' (X.wg i))
    (hmd : ∀ b, X'.on b → MdOk X' h gs.size B cn' w b (.norm 0) ∧ sm X' gs.size cn' b < 2147483647) :
    Crew P X' V' h dh B Rd cn' T gs w q := by
  refine ⟨C.hlt, fun i g hi hg => ?_, fun i c z home hi e => ⟨hCh c (C.seats i c z home hi e).1, (C.seats i c z home hi e).2⟩, C.inj, C.out, C.hdeaf, fun g l hl => ?_, C.rds, fun a ha => ⟨block_of_cell (hst a ha).2.choose_spec.1, hst a ha⟩, hsh, fun a ha => C.shlow a (by rw [← hSh]; exact ha), fun b hb => C.exlow b (by rw [← hEx]; exact hb), fun b o => (hmd b o).1,
    fun b o => (hmd b o).2, fun i s hi e => by rw [(hdn i s hi e).1]; exact (hdn i s hi e).2.2, hV, by rw [hSh]; exact C.past⟩
  · have hid := C.idle i g hi hg
    cases e : B i with
    | gone => rw [e] at hid; exact hid
    | dn s =>
      rw [e] at hid
      obtain ⟨h1, h2, h3, Cb, hC, hD⟩ := hid
      obtain ⟨e1, e2, _⟩ := hdn i s hi e
      obtain ⟨v, ty, b1, b2, b3, b4⟩ := hC
      exact ⟨h1, by rw [e1]; exact e2, h3, Cb, ⟨v, ty, b1, by rw [hBx]; exact b2, by rw [hEx]; exact b3, b4⟩, by rw [e1, hty]; exact hD⟩
    | seat c z home =>
      rw [e] at hid
      obtain ⟨h1, L, hL, hS⟩ := hid
      exact ⟨h1, L, fun a v hav => ⟨(hL a v hav).1, prot_more hSt hBx hEx (hL a v hav).2.1, (hL a v hav).2.2⟩, by rw [hBx]; exact hS⟩
  · obtain ⟨a, rfl, ha⟩ := C.rdp g l hl
    exact ⟨a, rfl, prot_more hSt hBx hEx ha⟩

/-- ALL OTHERS ONLY LEAVE: what is fixed may be chosen anew. -/
theorem CrewM.anew (C : CrewM P X V h dh B Rd cn T gs w q md) (hg : ∀ i, i ≠ h → B i = .gone) (hoff : ∀ b, ¬ X'.on b) (hSt : ∀ a, X'.St a → ∃ v, w.cell? a = some v ∧ NotFn v) (hEx : ∀ b, X'.Ex b → b < w.heap.size) (hSh : X'.Sh = X.Sh) (hV : ∀ c, X'.Ch c → ¬ V' c) :
    Crew P X' V' h dh B (fun _ _ => False) cn' T gs w q := by
  have hRd : ∀ g l, g ≠ h → ¬ Rd g l := fun g l hgh hl => by
    obtain ⟨c, z, home, e⟩ := C.rds g l hgh hl
    rw [hg g hgh] at e; cases e
  refine ⟨C.hlt, fun i g hi hgi => ?_, fun i c z home hi e => (by rw [hg i hi] at e; cases e), C.inj, fun j hj => ⟨(C.out j hj).1, fun _ x => x, (C.out j hj).2.2⟩, C.hdeaf, fun g l hl => hl.elim, fun g l _ hl => hl.elim, fun a ha => ⟨block_of_cell (hSt a ha).choose_spec.1, hoff _, hSt a ha⟩, fun a o => absurd o (hoff _), fun a ha => C.shlow a (by rw [← hSh]; exact ha), hEx, fun b o => absurd o (hoff b),
    fun b o => absurd o (hoff b), fun i s hi e => (by rw [hg i hi] at e; cases e), hV, ?_⟩
  · have hid := C.idle i g hi hgi
    rw [hg i hi] at hid ⊢
    exact hid
  · rw [hSh]
    have p := C.past.lose (fun _ => False) (fun _ x => x.elim)
    refine p.rd_sub (fun _ _ x => x.elim) fun i a g _ _ hr _ => ?_
    by_cases e : g = h
    · rw [if_pos e] at hr; exact hr.elim
    · rw [if_neg e] at hr; exact absurd hr (hRd g _ e)

/-- The block of a group that is to be. -/
def wgNew (Sh : Loc → Prop) (b : Nat) : Loc → Prop := fun l => Sh l ∨ ∃ x : Addr, l = .cell x ∧ x.block = b
/-- The holder makes a block that is a group's from now on. -/
theorem Crew.group {R : World → World → Prop} (hR : Rely V B h R) (hRt : ∀ a b c, R a b → R b c → R a c) (C : Crew P X V h dh B Rd cn T gs w q) {a a' : Goroutine} {o : Obj} {sl : Option (Nat × Nat)} (ha : gs[h]? = some a) (hrun : a.status = .running) (hnoch : ∀ w₁ : World, w.heap.size ≤ w₁.heap.size → ∀ c, ¬ c < w₁.heap.size → ¬ X.Ch c) (hs : ∀ w₁, R w w₁ → stepG P (h == 0) a w₁ = .go a' (w₁.alloc o) #[]) :
    ∃ (N : Nat) (gs' : Array Goroutine) (w₁ : World) (sl' : Option (Nat × Nat)) (T' : Trace) (q' : Nat → Nat × Nat) (Rd' : Nat → Loc → Prop) (B' : Nat → By) (cn' : Nat → Nat),
      runNT P N (crowd gs w sl) T = (.next (crowd gs' (w₁.alloc o) sl'), T') ∧ gs'.size = gs.size ∧ gs'[h]? = some a' ∧ R w w₁ ∧ Ext V w w₁ ∧ Env X w w₁ ∧ Later h B cn B' cn' ∧
      Crew P { X with Sh := wgNew X.Sh w₁.heap.size } V h dh B' Rd' cn' T' gs' (w₁.alloc o) q' := by
  obtain ⟨N, gs₁, w₁, d, sl₁, sl₂, T₁, q₁, Rd₁, B₁, cn₁, hr, hst, hsz, ha₁, hRw, hE, hEv, hlat, C₁⟩ := C.picked (sl := sl) hR hRt ha hrun
  generalize hw2 : w₁.at d = w₂ at *
  have hgo := hs w₂ hRw
  have hD : HD X w₂ (w₂.alloc o) #[] := by
    refine ⟨⟨by simp, fun a ha => ?_, fun b hb => ?_, fun b _ ⟨st, sm, hw⟩ => ⟨st, sm, ?_⟩, rfl, rfl⟩, fun c hc => ?_, fun b ob => ?_, fun e he => by simp at he⟩
    · exact cell_of_block (heap_alloc_old _ _ _ (C₁.st a ha).1)
    · obtain ⟨v, ty, hv, _⟩ := hb
      exact heap_alloc_old _ _ _ (Array.getElem?_eq_some_iff.1 hv).1
    · exact (heap_alloc_old _ _ _ (Array.getElem?_eq_some_iff.1 hw).1).trans hw
    · by_cases hlt : c < w₂.heap.size
      · exact heap_alloc_old _ _ _ hlt
      · exact absurd hc (hnoch w₂ hE.size c hlt)
    · obtain ⟨st, sm, hw⟩ := (C₁.mdok b ob).wg
      exact heap_alloc_old _ _ _ (Array.getElem?_eq_some_iff.1 hw).1
  obtain ⟨C₂, ha₂⟩ := CrewM.own C₁ (a := a) (a' := a') hD
  rw [ofEvents_nil, Array.append_empty] at C₂
  refine ⟨N + 1, _, w₂, sl₂, T₁, q₁, Rd₁, B₁, cn₁, ?_, by simpa using hsz, ha₂, hRw, hE, hEv, hlat, ⟨C₂.hlt, C₂.idle, C₂.seats, C₂.inj, C₂.out, C₂.hdeaf, C₂.rdp, C₂.rds, C₂.st, fun a o => .inl (C₂.sh a o), fun a ha => ?_, C₂.exlow, C₂.mdok, C₂.few, C₂.volD, C₂.volC, (C₁.past.group (b := w₂.heap.size) (Nat.le_refl _)).mono (by simp)⟩⟩
  · have := runNT_succ_of hr (show stepT P (crowd gs₁ w₁ sl₁) = (.next (crowd ((gs₁.map (woken P a a' (w₂.alloc o))).setIfInBounds h a') (w₂.alloc o) sl₂), #[]) by rw [hst]; exact runT_crowd_go (sl := sl₂) ha₁ hgo)
    rw [Array.append_empty] at this
    exact this
  · rcases ha with ha | ⟨x, e, hx⟩
    · exact C₂.shlow a ha
    · obtain rfl := Loc.cell.inj e
      rw [hx, World.size_alloc]; exact Nat.lt_succ_self _
end
end Cw
end

/-! ### NwE -/
section
namespace Cw
open Go Go.Conc
open Go.ConcN (sumTo upd upd_same upd_ne sumTo_upd sumTo_congr WgLive le_sumTo)
open Go.ConcR (KK wgBlock WgAt stA smA rd wr)

/-- Nobody leans on anything; no group. -/
def Cx0 (Sh : Loc → Prop) : Cx := { St := fun _ => False, Bx := fun _ _ => False, Ex := fun _ => False, Lo := fun _ => False, Ch := fun _ => False, Sh := Sh, wg := fun _ => 0, ty := 0, on := fun _ => False }

/-- The run's beginning. -/
theorem crew_init (P : Program) (g : Goroutine) (w : World) : Crew P (Cx0 fun _ => False) (fun _ => False) 0 0 (fun _ => .gone) (fun _ _ => False) (fun _ => 0) #[] #[g] w (fun _ => (0, 0)) := by
  have he : ∀ i, touchAt (#[] : Trace) i = none := fun i => by simp [touchAt, Trace.act?]
  refine ⟨by simp, fun i x hi hx => ?_, fun i c z home hi e => (by cases e), fun i i' c z z' home home' _ _ e => (by cases e), fun j _ => ⟨rfl, fun _ x => x, rfl⟩, rfl, fun g l hl => hl.elim, fun g l _ hl => hl.elim, fun a ha => ha.elim, fun a o => o.elim, fun a ha => ha.elim, fun b hb => hb.elim, fun b o => o.elim, fun b o => o.elim, fun i s _ e => (by cases e), fun c hc => hc.elim, ?_⟩
  · have : i = 0 := by
      have := (Array.getElem?_eq_some_iff.1 hx).1
      simp at this; omega
    exact absurd this hi
  · refine ⟨fun said => ?_, fun i a ha => ?_, fun i a g ha => ?_, fun i a ha => ?_, fun g l hl => hl.elim, fun g _ => rfl, fun op hop => by simp at hop, fun op hop => by simp at hop⟩
    · rintro ⟨i, j, _, ⟨a, _, ha, _⟩, _⟩
      have := he i
      rw [show touchAt (#[] : Trace) i = some a from ha] at this
      cases this
    · rw [he] at ha; cases ha
    · rw [he] at ha; cases ha
    · rw [he] at ha; cases ha

section
variable {P : Program} {X : Cx} {V : Nat → Prop} {B : Nat → By} {Rd : Nat → Loc → Prop} {cn : Nat → Nat} {T : Trace} {gs : Array Goroutine} {w : World} {q : Nat → Nat × Nat}

/-- Goroutine 0's next step is the return. -/
def AtFin (P : Program) (X : Cx) (Post : Value → World → Prop) (g : Goroutine) (w : World) : Prop :=
  g.status = .running ∧ ∀ d, ∃ v es, stepG P true g (w.at d) = .ended (.done v) (w.at d) es ∧ (∀ e ∈ es, EvM X (w.at d) (w.at d) e ∧ Quiet e) ∧ Post v (w.at d)

theorem runT_crowd_ended {g : Goroutine} {sl : Option (Nat × Nat)} {i : Nat} {o : Outcome} {w' : World} {es : Array Event} (hi : gs[i]? = some g) (h : stepG P (i == 0) g w = .ended o w' es) :
    runT P (crowd gs w sl) i = (.ended o w', MemOp.ofEvents i g.frame.fn g.frame.place es) := by
  obtain ⟨hlt, rfl⟩ := Array.getElem?_eq_some_iff.1 hi
  have hsw := swapAt_of_lt hlt { (default : Goroutine) with status := .finished }
  show runT P { world := w, gs := gs, rest := { timers := #[], alone := none, slice := sl } } i = _
  unfold runT
  simp only [hsw, h, GStep.es]

/-- THE RUN's END: all others only leave. -/
theorem Crew.ends (C : Crew P X V 0 0 B Rd cn T gs w q) (hg : ∀ i, i ≠ 0 → B i = .gone) {D : World → World → Array Event → Prop} {Post : Value → World → Prop} (hD : ∀ w w' es, D w w' es → HD X w w' es ∧ ∀ e ∈ es, Quiet e) {n : Nat} {a : Goroutine} {sl : Option (Nat × Nat)} (ha : gs[0]? = some a)
    (hG : Goes P true AtRel D (AtFin P X Post) n a w) :
    ∃ N last o w' t', runNT P (N + 1) (crowd gs w sl) T = (.ended o w', t') ∧ runN P N (crowd gs w sl) = .next last ∧ step P last = .ended o w' ∧ Go.Conc.Good P Post last o w' t' := by
  have hR : Rely V B 0 AtRel := fun _ _ _ k => k hg
  obtain ⟨N₁, gs₁, a₁, w₁, sl₁, T₁, q₁, Rd₁, B₁, cn₁, r1, z1, h1, ⟨hrun, hfin⟩, hl1, C₁, _⟩ := Crew.hold_walk (sl := sl) hR atRel_trans hD ha C hG
  have gone_of : ∀ {B₁ : Nat → By} {cn₁ : Nat → Nat}, Later 0 B cn B₁ cn₁ → ∀ i, i ≠ 0 → B₁ i = .gone := fun hl i hi => by
    rcases hl.le i with e | ⟨⟨s, e⟩, _⟩
    · rw [e]; exact hg i hi
    · rw [hg i hi] at e; cases e
  have hg₁ := gone_of hl1
  have hR₁ : Rely V B₁ 0 AtRel := fun _ _ _ k => k hg₁
  obtain ⟨N₂, gs₂, w₂, d, sl₂, sl₃, T₂, q₂, Rd₂, B₂, cn₂, r2, hst, z2, h2, ⟨d', hd'⟩, _, _, hl2, C₂⟩ := C₁.picked (sl := sl₁) hR₁ atRel_trans h1 hrun
  have hg₂ := gone_of (hl1.trans hl2)
  rw [hd'] at hst C₂
  obtain ⟨v, es, hend, hes, hpost⟩ := hfin d'
  have hrt := runT_crowd_ended (P := P) (sl := sl₃) h2 hend
  have hops : ∀ op ∈ MemOp.ofEvents 0 a₁.frame.fn a₁.frame.place es, op.g = 0 := fun op hop => by obtain ⟨e, _, rfl⟩ := Go.Conc.mem_ofEvents hop; rfl
  have hnoR : ∀ g l, g ≠ 0 → ¬ Rd₂ g l := fun g l hgh hl => by
    obtain ⟨c, z, home, e⟩ := C₂.rds g l hgh hl
    rw [hg₂ g hgh] at e; cases e
  have p := (C₂.past.lose (fun _ => False) (fun _ x => x.elim)).rd_sub (Rd' := fun _ _ => False) (fun _ _ x => x.elim) fun i a g _ _ hr _ => (by
    by_cases e : g = 0
    · rw [if_pos e] at hr; exact hr.elim
    · rw [if_neg e] at hr; exact absurd hr (hnoR g _ e))
  have p2 := p.appH (u := MemOp.ofEvents 0 a₁.frame.fn a₁.frame.place es) (Nat.le_refl _) hops (fun x => x.1 rfl) (fun op hop b hb => by
    obtain ⟨e, he, rfl⟩ := Go.Conc.mem_ofEvents hop
    exact ⟨((hes e he).1.touch b hb).1, fun _ _ _ x => x⟩) (fun op hop x e => by
    obtain ⟨ev, he, rfl⟩ := Go.Conc.mem_ofEvents hop
    refine (hes ev he).1.norel x ?_
    obtain ⟨loc, wr, sy⟩ := ev
    cases loc with
    | mark m => simp only [MemAct.ofEvent, MemAct.mark.injEq] at e; rw [e]
    | obj c => cases wr <;> cases sy <;> simp [MemAct.ofEvent] at e
    | _ => simp [MemAct.ofEvent] at e) (fun op hop => by obtain ⟨e, he, rfl⟩ := Go.Conc.mem_ofEvents hop; exact (hes e he).1.low)
  have hidle : ∀ i g, i ≠ 0 → gs₂[i]? = some g → QuitsD P (q₂ i).2 (Deaf T₂ i) g := fun i g hi hgi => by
    have := C₂.idle i g hi hgi
    rw [hg₂ i hi] at this
    exact this.2.2
  have hrun2 := runNT_then r1 r2
  refine ⟨N₁ + N₂, crowd gs₂ w₂ sl₂, .done v, w₁.at d', T₂ ++ MemOp.ofEvents 0 a₁.frame.fn a₁.frame.place es, ?_, ?_, ?_, v, rfl, hpost, p2.clean, p2.over (fun _ _ x => x) (fun _ x => x) (fun _ x => x), ⟨fun g hgm => ?_, rfl⟩, fun i g hgi hi => ?_⟩
  · rw [runNT_add, hrun2]
    simp only [runNT, hst, hrt]
  · rw [← runNT_fst P _ _ T, hrun2]
  · unfold step; rw [hst, hrt]
  · have hgm' : g ∈ gs₂.toList.drop 1 := hgm
    obtain ⟨i, hi, rfl⟩ := List.mem_iff_getElem.1 hgm'
    have hlen : i + 1 < gs₂.size := by simp only [List.length_drop, Array.length_toList] at hi; omega
    have : gs₂[i + 1]? = some ((List.drop 1 gs₂.toList)[i]'hi) := by
      rw [Array.getElem?_eq_getElem hlen]
      simp
    exact ⟨_, (hidle (i + 1) _ (by omega) this).leaves⟩
  · have hdf : (T₂ ++ MemOp.ofEvents 0 a₁.frame.fn a₁.frame.place es).deaf i (T₂ ++ MemOp.ofEvents 0 a₁.frame.fn a₁.frame.place es).size = Deaf T₂ i := Deaf_other T₂ (fun e => hi e.symm) _ hops
    rw [hdf]
    exact ⟨_, (hidle i g hi hgi).hears _⟩
end
end Cw
end

/-! ### NwD -/
section
namespace Cw
open Go Go.Conc Go.ConcN Go.RowKit Go.Conc.Lib Go.ConcR.Gen
open Go.ConcR (KK wgBlock WgAt stA smA rd wr mk Payload DC0)
open Go.ConcN.Gen (doneN)

theorem goes_imp {P : Program} {main : Bool} {R R' : World → World → Prop} {D D' : World → World → Array Event → Prop} {Stop Stop' : Goroutine → World → Prop} (hR : ∀ w w₁, R' w w₁ → R w w₁) (hD : ∀ w w' es, D w w' es → D' w w' es) (hS : ∀ g w, Stop g w → Stop' g w) :
    ∀ {n : Nat} {g : Goroutine} {w : World}, Goes P main R D Stop n g w → Goes P main R' D' Stop' n g w
  | 0, _, _, h => fun w₁ h₁ => hS _ _ (h w₁ (hR _ _ h₁))
  | n + 1, g, w, h => by
    rcases h with h | ⟨hs, h⟩
    · exact .inl fun w₁ h₁ => hS _ _ (h w₁ (hR _ _ h₁))
    · refine .inr ⟨hs, fun w₁ h₁ => ?_⟩
      have := h w₁ (hR _ _ h₁)
      revert this
      cases stepG P main g w₁ <;> simp only [GStep.goes, imp_self]
      exact fun ⟨d, x⟩ => ⟨hD _ _ _ d, goes_imp hR hD hS x⟩

section
variable [Payload] {P : Program} {ty : TypeId} {Wg C : Nat}
theorem rkeep_rw (w w₁ : World) (h : RKeep ty Wg C w w₁) : RW ty Wg C 1 0 0 w w₁ :=
  ⟨fun b hb => absurd hb (Nat.not_lt_zero b), h.1, fun ⟨cs, h1, h2⟩ => ⟨cs, by rw [h.2]; exact h1, h2⟩, cell_of_block h.2⟩
omit [Payload] in
theorem st4_of {g : Goroutine} {w : World} (h : AtD4 P ty Wg g w) : St4 P ty Wg g w :=
  ⟨h.1, h.2.1, fun hw => let ⟨g', h1, h2⟩ := h.2.2 hw; ⟨g', _, h1, .inr rfl, h2⟩⟩
omit [Payload] in
theorem atm_one (a : Addr) (x : Bool) (h : a.block = Wg) : Atm Wg #[⟨.cell a, x, true⟩] := .inl fun e he => by
  simp only [List.mem_toArray, List.mem_cons, List.not_mem_nil, or_false] at he
  exact ⟨a, x, he, h⟩
theorem st3_of {g : Goroutine} {w : World} (h : AtD3 P ty Wg C 1 0 1 g w) : St3 P ty Wg C g w :=
  ⟨h.1, fun hw => let ⟨g', h1, m, h2⟩ := h.2 hw; ⟨g', _, h1, atm_one _ _ rfl, m, goes_imp rkeep_rw (fun _ _ _ x => x) (fun _ _ => st4_of) h2⟩⟩
theorem st2_of {g : Goroutine} {w : World} (h : AtD2 P ty Wg C 1 0 1 g w) : St2 P ty Wg C g w :=
  ⟨h.1, fun hw => let ⟨g', h1, m, h2⟩ := h.2 hw; ⟨g', _, h1, atm_one _ _ rfl, m, goes_imp rkeep_rw (fun _ _ _ x => x) (fun _ _ => st3_of) h2⟩⟩
theorem st1_of {g : Goroutine} {w : World} (h : AtD1 P ty Wg C 1 0 1 g w) : St1 P ty Wg C g w := by
  refine ⟨h.1, fun v wt h1 h2 hw => ?_⟩
  obtain ⟨g', hgo, hl, hq⟩ := h.2 v wt h1 h2 hw
  refine ⟨g', _, hgo, .inl fun e he => ?_, fun hz => ?_, hq⟩
  · simp only [List.mem_toArray, List.mem_cons, List.not_mem_nil, or_false] at he
    rcases he with rfl | rfl
    · exact ⟨_, _, rfl, rfl⟩
    · exact ⟨_, _, rfl, rfl⟩
  · obtain ⟨m, h3⟩ := hl hz
    exact ⟨m, goes_imp rkeep_rw (fun _ _ _ x => x) (fun _ _ => st2_of) h3⟩
theorem stK_of {g : Goroutine} {w : World} (h : AtK1 P ty Wg C 1 0 1 g w) : StK P ty Wg C g w :=
  ⟨h.1, let ⟨g', h1, m, h2⟩ := h.2; ⟨g', h1, m, goes_imp rkeep_rw (fun _ _ _ x => x) (fun _ _ => st1_of) h2⟩⟩

/-- The library's judgement, ahead of the release. -/
abbrev KG (P : Program) (ty : TypeId) (Wg C : Nat) (v : Value) (n : Nat) (g : Goroutine) (w : World) : Prop :=
  Goes P false (RW ty Wg C 1 0 0) (DWs Wg (fun _ _ => False) (fun _ _ => False) C 1 1) (AtR0 P ty Wg C 1 0 1 v) n g w
theorem rw_refl (w : World) : RW ty Wg C 1 0 0 w w := ⟨fun _ _ _ _ => rfl, id, id, rfl⟩
/-- A step that lists no release is no stop of it. -/
theorem kg_step {v : Value} {n : Nat} {g g' : Goroutine} {w w' : World} {es : Array Event} {Q : Prop} (hs : stepG P false g w = .go g' w' es) (he : es ≠ #[mk (.releaseMerge (stA Wg))]) (k : KG P ty Wg C v n g' w' → Q) : KG P ty Wg C v (n + 1) g w → Q := by
  intro h
  rcases h with h | ⟨_, h⟩
  · obtain ⟨_, _, g₂, h2, _⟩ := h w (rw_refl w)
    rw [hs] at h2
    cases h2
    exact absurd rfl he
  · have := h w (rw_refl w)
    rw [hs, goes_go] at this
    exact k this.2
theorem kg_goes {v : Value} {n : Nat} {g : Goroutine} {w : World} {Q : Prop} (hs : (stepG P false g w).goes fun g' w' es => es ≠ #[mk (.releaseMerge (stA Wg))] ∧ (KG P ty Wg C v n g' w' → Q)) : KG P ty Wg C v (n + 1) g w → Q := by
  cases e : stepG P false g w with
  | go g' w' es => rw [e, goes_go] at hs; exact kg_step e hs.1 hs.2
  | _ => rw [e] at hs; exact hs.elim
theorem kg_end {v : Value} {g g' : Goroutine} {w w' : World} {es : Array Event} {Q : Prop} (hs : stepG P false g w = .go g' w' es) (he : es ≠ #[mk (.releaseMerge (stA Wg))]) : KG P ty Wg C v 0 g w → Q := by
  intro h
  obtain ⟨_, _, g₂, h2, _⟩ := h w (rw_refl w)
  rw [hs] at h2
  cases h2
  exact absurd rfl he
theorem kg_rel {v : Value} {n : Nat} {g g' : Goroutine} {w w' : World} {Q : Prop} (hs : stepG P false g w = .go g' w' #[mk (.releaseMerge (stA Wg))]) (hrun : g.status = .running) (hit : StR P ty Wg C g w → Q) (k : KG P ty Wg C v n g' w' → Q) : KG P ty Wg C v (n + 1) g w → Q := by
  intro h
  rcases h with h | ⟨_, h⟩
  · obtain ⟨_, _, g₂, h2, m, h3⟩ := h w (rw_refl w)
    exact hit ⟨hrun, g₂, h2, m, goes_imp rkeep_rw (fun _ _ _ x => x) (fun _ _ => stK_of) h3⟩
  · have := h w (rw_refl w)
    rw [hs, goes_go] at this
    exact k this.2
end

section
variable {P : Program} {L : WgLink} {Wg C : Nat}
theorem done_rl {w w₁ : World} (h : WgLive L.tWg Wg w ∧ ∃ v, w.cell? ⟨C, 0, none⟩ = some v) (r : RKeep L.tWg Wg C w w₁) : WgLive L.tWg Wg w₁ ∧ ∃ v, w₁.cell? ⟨C, 0, none⟩ = some v :=
  ⟨r.1 h.1, let ⟨v, hv⟩ := h.2; ⟨v, (cell_of_block (a := ⟨C, 0, none⟩) r.2).trans hv⟩⟩

set_option maxRecDepth 100000 in
theorem done_walk (H : WgLib P L) {c : Frame} {cs : List Frame} {qt : Nat} (hcm : c.mode = .returning) (hT : QuitsD P qt 0 (G c cs)) (w : World) (hK : WgLive L.tWg Wg w ∧ ∃ v, w.cell? ⟨C, 0, none⟩ = some v) :
    Goes P false (RKeep L.tWg Wg C) D0 (StR P L.tWg Wg C) 20 (G ((baseD L.done).at ⟨#[.pointer (some ⟨Wg, 0, none⟩), undef, undef, undef], []⟩ [.code (body_done L)]) (c :: cs)) w := by
  letI : Payload := ⟨0⟩
  have kit := fun (w : World) (v : Value) h => @doneN _ L P H (fun _ _ => False) (fun _ _ => False) Wg C 1 0 1 v c cs qt hcm hT w h
  lib_facts
  simp only [body_done, body_add, doneFn, addFn, Option.getD_some] at kit ⊢
  u_reg done_rl hK
  u_op done_rl hK
  u_in done_rl hK
  refine goes_call rfl rfl (by k_ne) rfl H.f_add (nm_add L) rfl ⟨by u_nil, ?_⟩
  walk_nrmf addFn
  repeat (first | u_c stepG_seq done_rl hK | u_cond true done_rl hK | u_reg done_rl hK | u_op done_rl hK | u_c stepG_region_end done_rl hK)
  u_conv H.underlying_tWgP H.room_tWg (Go.ConcN.Gen.WgLive.cell0 hK.1).choose_spec done_rl hK
  refine Goes.stop (fun w₁ h₁ => ?_)
  replace hK := done_rl hK h₁
  clear h₁
  obtain ⟨v, hv⟩ := hK.2
  have h := kit w₁ v ⟨hK.1, hv⟩
  revert h
  refine kg_goes ?_
  rw [stepG_region]
  simp only [goes_go, List.size_toArray, List.length_cons, List.length_nil, Nat.reduceAdd, Nat.zero_add, List.range, List.range.loop]
  refine ⟨by simp, ?_⟩
  refine kg_goes ?_
  refine goes_oper_k rfl rfl (by k_ne) (fun K hK' => ?_)
  go_simp
  refine hK' _ _ ⟨?_, ?_⟩
  · intro hx
    have hm := mem_listed (e := mk (.releaseMerge (stA Wg))) (by rw [hx]; simp)
    simp [go_sem, *] at hm
  clear hK' K
  try w_num
  refine kg_goes ?_
  refine goes_call rfl rfl (by k_ne) rfl H.f_add (nm_add L) rfl ⟨by simp, ?_⟩
  walk_nrmf addFn
  refine kg_goes ?_
  rw [stepG_seq]
  simp only [goes_go]
  refine ⟨by simp, ?_⟩
  refine kg_goes ?_
  rw [stepG_cond (t := true) rfl]
  simp only [goes_go, if_true, if_false, Bool.false_eq_true, ↓reduceIte]
  refine ⟨by simp, ?_⟩
  refine kg_goes ?_
  rw [stepG_seq]
  simp only [goes_go]
  refine ⟨by simp, ?_⟩
  refine kg_goes ?_
  rw [stepG_seq]
  simp only [goes_go]
  refine ⟨by simp, ?_⟩
  refine kg_goes ?_
  rw [stepG_region]
  simp only [goes_go, List.size_toArray, List.length_cons, List.length_nil, Nat.reduceAdd, Nat.zero_add, List.range, List.range.loop]
  refine ⟨by simp, ?_⟩
  refine kg_goes ?_
  refine goes_oper_k rfl rfl (by k_ne) (fun K hK' => ?_)
  go_simp
  refine hK' _ _ ⟨?_, ?_⟩
  · intro hx
    have hm := mem_listed (e := mk (.releaseMerge (stA Wg))) (by rw [hx]; simp)
    simp [go_sem, *] at hm
  clear hK' K
  try w_num
  refine kg_goes ?_
  refine goes_oper_k rfl rfl (by k_ne) (fun K hK' => ?_)
  go_simp
  refine hK' _ _ ⟨?_, ?_⟩
  · intro hx
    have hm := mem_listed (e := mk (.releaseMerge (stA Wg))) (by rw [hx]; simp)
    simp [go_sem, *] at hm
  clear hK' K
  try w_num
  refine kg_goes ?_
  rw [stepG_region_end]
  simp only [goes_go]
  refine ⟨by simp, ?_⟩
  refine kg_goes ?_
  rw [stepG_cond (t := true) rfl]
  simp only [goes_go, if_true, if_false, Bool.false_eq_true, ↓reduceIte]
  refine ⟨by simp, ?_⟩
  refine kg_goes ?_
  rw [stepG_region]
  simp only [goes_go, List.size_toArray, List.length_cons, List.length_nil, Nat.reduceAdd, Nat.zero_add, List.range, List.range.loop]
  refine ⟨by simp, ?_⟩
  refine kg_goes ?_
  refine goes_oper_k rfl rfl (by k_ne) (fun K hK' => ?_)
  go_simp
  refine hK' _ _ ⟨?_, ?_⟩
  · intro hx
    have hm := mem_listed (e := mk (.releaseMerge (stA Wg))) (by rw [hx]; simp)
    simp [go_sem, *] at hm
  clear hK' K
  try w_num
  refine kg_goes ?_
  refine goes_oper_k rfl rfl (by k_ne) (fun Kx hKx => ?_)
  have hcv := run_convert_to_unsafe (P := P) H.underlying_tWgP H.underlying_tUP H.room_tWg (Go.ConcN.Gen.WgLive.cell0 hK.1).choose_spec
  have hce := fun es => events_convert_to_unsafe (P := P) H.underlying_tWgP H.underlying_tUP H.room_tWg (Go.ConcN.Gen.WgLive.cell0 hK.1).choose_spec es
  go_simp
  refine hKx _ _ ⟨?_, ?_⟩
  · intro hx
    have hm := mem_listed (e := mk (.releaseMerge (stA Wg))) (by rw [hx]; simp)
    simp [go_sem, hce] at hm
  clear hKx Kx hcv hce
  refine kg_rel (stepG_markAt .releaseMerge (by simp) rfl rfl (by k_ne) rfl H.f_relMerge (x_relMerge_n L) (x_relMerge_b L) (x_relMerge_x L) (x_relMerge_f L) (by simp [Act.eval, stA])) rfl (fun x => x) ?_
  walk_nrm
  refine kg_goes ?_
  rw [stepG_region_end]
  simp only [goes_go]
  refine ⟨by simp, ?_⟩
  refine kg_goes ?_
  rw [stepG_seq]
  simp only [goes_go]
  refine ⟨by simp, ?_⟩
  refine kg_goes ?_
  rw [stepG_region]
  simp only [goes_go, List.size_toArray, List.length_cons, List.length_nil, Nat.reduceAdd, Nat.zero_add, List.range, List.range.loop]
  refine ⟨by simp, ?_⟩
  refine kg_step (stepG_mark0 .disable (by simp) rfl rfl (by k_ne) rfl H.f_disable (x_disable_n L) (x_disable_b L) (x_disable_x L) (x_disable_f L)) (by simp [mk]) ?_
  walk_nrm
  refine kg_goes ?_
  rw [stepG_region_end]
  simp only [goes_go]
  refine ⟨by simp, ?_⟩
  refine kg_goes ?_
  rw [stepG_region]
  simp only [goes_go, List.size_toArray, List.length_cons, List.length_nil, Nat.reduceAdd, Nat.zero_add, List.range, List.range.loop]
  refine ⟨by simp, ?_⟩
  refine kg_goes ?_
  rw [stepG_defer rfl rfl (by k_ne) rfl]
  simp only [goes_go]
  refine ⟨by simp, ?_⟩
  walk_nrm
  exact kg_end stepG_region_end (by simp)
end
end Cw
end
end Go.Proofs.Ytggfcdhkgldbfaa
