/-
  PARTS of a claim, merged by segs.py: CwE, CwD, CwU, CwP.
-/
import Derived.Test.YtggfcdhkgldbfaaC06
import Derived.Conc.LeavingOf
import Derived.Conc.WgGenN2
import Derived.Conc.WgGenLone
import Derived.Conc.TokenWords
import Derived.Conc.CompanyMem
import Derived.Conc.WgWords
namespace Go.Proofs.Ytggfcdhkgldbfaa
set_option linter.unusedSimpArgs false
set_option linter.unusedVariables false

/-! ### CwE -/
section
namespace Cw
open Go Go.Conc
open Go.ConcN (sumTo upd upd_same upd_ne sumTo_upd sumTo_congr WgLive le_sumTo)
open Go.ConcR (KK wgBlock WgAt stA smA rd wr)

/-- Nobody leans on anything; no group. -/
def Cx0 (Sh : Loc → Prop) : Cx := { St := fun _ => False, Bx := fun _ _ => False, Ex := fun _ => False, Ch := fun _ => False, Sh := Sh, Wg := 0, ty := 0, on := False }

/-- The run's beginning. -/
theorem crew_init (P : Program) (g : Goroutine) (w : World) : Crew P (Cx0 fun _ => False) (fun _ => False) 0 0 (fun _ => .gone) (fun _ _ => False) (fun _ => 0) #[] #[g] w (fun _ => (0, 0)) := by
  have he : ∀ i, touchAt (#[] : Trace) i = none := fun i => by simp [touchAt, Trace.act?]
  refine ⟨by simp, fun i x hi hx => ?_, fun i c z home hi e => (by cases e), fun i i' c z z' home home' _ _ e => (by cases e), fun j _ => ⟨rfl, fun _ x => x, rfl⟩, rfl, fun g l hl => hl.elim, fun g l _ hl => hl.elim, fun a ha => ha.elim, fun o => o.elim, fun a ha => ha.elim, fun b hb => hb.elim, fun o => o.elim, fun i s _ e => (by cases e), fun o => o.elim, fun o => o.elim, fun i s _ e => (by cases e), fun c hc => hc.elim, ?_⟩
  · have : i = 0 := by
      have := (Array.getElem?_eq_some_iff.1 hx).1
      simp at this; omega
    exact absurd this hi
  · refine ⟨fun said => ?_, fun i a ha => ?_, fun i a g ha => ?_, fun i a ha => ?_, fun g l hl => hl.elim, fun g _ => rfl, fun op hop => by simp at hop, fun op hop => by simp at hop⟩
    · rintro ⟨i, j, _, ⟨a, _, ha, _⟩, _⟩
      have := he i
      rw [show touchAt (#[] : Trace) i = some a from ha] at this
      cases this
    · rw [he] at ha; cases ha
    · rw [he] at ha; cases ha
    · rw [he] at ha; cases ha

section
variable {P : Program} {X : Cx} {V : Nat → Prop} {B : Nat → By} {Rd : Nat → Loc → Prop} {cn : Nat → Nat} {T : Trace} {gs : Array Goroutine} {w : World} {q : Nat → Nat × Nat}

/-- Goroutine 0's next step is the return. -/
def AtFin (P : Program) (X : Cx) (Post : Value → World → Prop) (g : Goroutine) (w : World) : Prop :=
  g.status = .running ∧ ∀ d, ∃ v es, stepG P true g (w.at d) = .ended (.done v) (w.at d) es ∧ (∀ e ∈ es, EvM X (w.at d) (w.at d) e ∧ Quiet e) ∧ Post v (w.at d)

theorem runT_crowd_ended {g : Goroutine} {sl : Option (Nat × Nat)} {i : Nat} {o : Outcome} {w' : World} {es : Array Event} (hi : gs[i]? = some g) (h : stepG P (i == 0) g w = .ended o w' es) :
    runT P (crowd gs w sl) i = (.ended o w', MemOp.ofEvents i g.frame.fn g.frame.place es) := by
  obtain ⟨hlt, rfl⟩ := Array.getElem?_eq_some_iff.1 hi
  have hsw := swapAt_of_lt hlt { (default : Goroutine) with status := .finished }
  show runT P { world := w, gs := gs, rest := { timers := #[], alone := none, slice := sl } } i = _
  unfold runT
  simp only [hsw, h, GStep.es]

/-- THE RUN's END: all others only leave. -/
theorem Crew.ends (C : Crew P X V 0 0 B Rd cn T gs w q) (hg : ∀ i, i ≠ 0 → B i = .gone) {D : World → World → Array Event → Prop} {Post : Value → World → Prop} (hD : ∀ w w' es, D w w' es → HD X w w' es ∧ ∀ e ∈ es, Quiet e) {n : Nat} {a : Goroutine} {sl : Option (Nat × Nat)} (ha : gs[0]? = some a)
    (hG : Goes P true AtRel D (AtFin P X Post) n a w) :
    ∃ N last o w' t', runNT P (N + 1) (crowd gs w sl) T = (.ended o w', t') ∧ runN P N (crowd gs w sl) = .next last ∧ step P last = .ended o w' ∧ Go.Conc.Good P Post last o w' t' := by
  have hR : Rely V B 0 AtRel := fun _ _ _ k => k hg
  obtain ⟨N₁, gs₁, a₁, w₁, sl₁, T₁, q₁, Rd₁, B₁, cn₁, r1, z1, h1, ⟨hrun, hfin⟩, hl1, C₁, _⟩ := Crew.hold_walk (sl := sl) hR atRel_trans hD ha C hG
  have gone_of : ∀ {B₁ : Nat → By} {cn₁ : Nat → Nat}, Later 0 B cn B₁ cn₁ → ∀ i, i ≠ 0 → B₁ i = .gone := fun hl i hi => by
    rcases hl.le i with e | ⟨⟨s, e⟩, _⟩
    · rw [e]; exact hg i hi
    · rw [hg i hi] at e; cases e
  have hg₁ := gone_of hl1
  have hR₁ : Rely V B₁ 0 AtRel := fun _ _ _ k => k hg₁
  obtain ⟨N₂, gs₂, w₂, d, sl₂, sl₃, T₂, q₂, Rd₂, B₂, cn₂, r2, hst, z2, h2, ⟨d', hd'⟩, _, _, hl2, C₂⟩ := C₁.picked (sl := sl₁) hR₁ atRel_trans h1 hrun
  have hg₂ := gone_of (hl1.trans hl2)
  rw [hd'] at hst C₂
  obtain ⟨v, es, hend, hes, hpost⟩ := hfin d'
  have hrt := runT_crowd_ended (P := P) (sl := sl₃) h2 hend
  have hops : ∀ op ∈ MemOp.ofEvents 0 a₁.frame.fn a₁.frame.place es, op.g = 0 := fun op hop => by obtain ⟨e, _, rfl⟩ := Go.Conc.mem_ofEvents hop; rfl
  have hnoR : ∀ g l, g ≠ 0 → ¬ Rd₂ g l := fun g l hgh hl => by
    obtain ⟨c, z, home, e⟩ := C₂.rds g l hgh hl
    rw [hg₂ g hgh] at e; cases e
  have p := (C₂.past.lose (fun _ => False) (fun _ x => x.elim)).rd_sub (Rd' := fun _ _ => False) (fun _ _ x => x.elim) fun i a g _ _ hr _ => (by
    by_cases e : g = 0
    · rw [if_pos e] at hr; exact hr.elim
    · rw [if_neg e] at hr; exact absurd hr (hnoR g _ e))
  have p2 := p.appH (u := MemOp.ofEvents 0 a₁.frame.fn a₁.frame.place es) (Nat.le_refl _) hops (fun x => x.1 rfl) (fun op hop b hb => by
    obtain ⟨e, he, rfl⟩ := Go.Conc.mem_ofEvents hop
    exact ⟨((hes e he).1.touch b hb).1, fun _ _ _ x => x⟩) (fun op hop x e => by
    obtain ⟨ev, he, rfl⟩ := Go.Conc.mem_ofEvents hop
    refine (hes ev he).1.norel x ?_
    obtain ⟨loc, wr, sy⟩ := ev
    cases loc with
    | mark m => simp only [MemAct.ofEvent, MemAct.mark.injEq] at e; rw [e]
    | obj c => cases wr <;> cases sy <;> simp [MemAct.ofEvent] at e
    | _ => simp [MemAct.ofEvent] at e) (fun op hop => by obtain ⟨e, he, rfl⟩ := Go.Conc.mem_ofEvents hop; exact (hes e he).1.low)
  have hidle : ∀ i g, i ≠ 0 → gs₂[i]? = some g → QuitsD P (q₂ i).2 (Deaf T₂ i) g := fun i g hi hgi => by
    have := C₂.idle i g hi hgi
    rw [hg₂ i hi] at this
    exact this.2.2
  have hrun2 := runNT_then r1 r2
  refine ⟨N₁ + N₂, crowd gs₂ w₂ sl₂, .done v, w₁.at d', T₂ ++ MemOp.ofEvents 0 a₁.frame.fn a₁.frame.place es, ?_, ?_, ?_, v, rfl, hpost, p2.clean, p2.over (fun _ _ x => x) (fun _ x => x) (fun _ x => x), ⟨fun g hgm => ?_, rfl⟩, fun i g hgi hi => ?_⟩
  · rw [runNT_add, hrun2]
    simp only [runNT, hst, hrt]
  · rw [← runNT_fst P _ _ T, hrun2]
  · unfold step; rw [hst, hrt]
  · have hgm' : g ∈ gs₂.toList.drop 1 := hgm
    obtain ⟨i, hi, rfl⟩ := List.mem_iff_getElem.1 hgm'
    have hlen : i + 1 < gs₂.size := by simp only [List.length_drop, Array.length_toList] at hi; omega
    have : gs₂[i + 1]? = some ((List.drop 1 gs₂.toList)[i]'hi) := by
      rw [Array.getElem?_eq_getElem hlen]
      simp
    exact ⟨_, (hidle (i + 1) _ (by omega) this).leaves⟩
  · have hdf : (T₂ ++ MemOp.ofEvents 0 a₁.frame.fn a₁.frame.place es).deaf i (T₂ ++ MemOp.ofEvents 0 a₁.frame.fn a₁.frame.place es).size = Deaf T₂ i := Deaf_other T₂ (fun e => hi e.symm) _ hops
    rw [hdf]
    exact ⟨_, (hidle i g hi hgi).hears _⟩
end
end Cw
end

/-! ### CwD -/
section
namespace Cw
open Go Go.Conc Go.ConcN Go.RowKit Go.Conc.Lib Go.ConcR.Gen
open Go.ConcR (KK wgBlock WgAt stA smA rd wr mk Payload DC0)
open Go.ConcN.Gen (doneN)

theorem goes_imp {P : Program} {main : Bool} {R R' : World → World → Prop} {D D' : World → World → Array Event → Prop} {Stop Stop' : Goroutine → World → Prop} (hR : ∀ w w₁, R' w w₁ → R w w₁) (hD : ∀ w w' es, D w w' es → D' w w' es) (hS : ∀ g w, Stop g w → Stop' g w) :
    ∀ {n : Nat} {g : Goroutine} {w : World}, Goes P main R D Stop n g w → Goes P main R' D' Stop' n g w
  | 0, _, _, h => fun w₁ h₁ => hS _ _ (h w₁ (hR _ _ h₁))
  | n + 1, g, w, h => by
    rcases h with h | ⟨hs, h⟩
    · exact .inl fun w₁ h₁ => hS _ _ (h w₁ (hR _ _ h₁))
    · refine .inr ⟨hs, fun w₁ h₁ => ?_⟩
      have := h w₁ (hR _ _ h₁)
      revert this
      cases stepG P main g w₁ <;> simp only [GStep.goes, imp_self]
      exact fun ⟨d, x⟩ => ⟨hD _ _ _ d, goes_imp hR hD hS x⟩

section
variable [Payload] {P : Program} {ty : TypeId} {Wg C : Nat}
theorem rkeep_rw (w w₁ : World) (h : RKeep ty Wg C w w₁) : RW ty Wg C 1 0 0 w w₁ :=
  ⟨fun b hb => absurd hb (Nat.not_lt_zero b), h.1, fun ⟨cs, h1, h2⟩ => ⟨cs, by rw [h.2]; exact h1, h2⟩, cell_of_block h.2⟩
omit [Payload] in
theorem st4_of {g : Goroutine} {w : World} (h : AtD4 P ty Wg g w) : St4 P ty Wg g w :=
  ⟨h.1, h.2.1, fun hw => let ⟨g', h1, h2⟩ := h.2.2 hw; ⟨g', _, h1, .inr rfl, h2⟩⟩
omit [Payload] in
theorem atm_one (a : Addr) (x : Bool) (h : a.block = Wg) : Atm Wg #[⟨.cell a, x, true⟩] := .inl fun e he => by
  simp only [List.mem_toArray, List.mem_cons, List.not_mem_nil, or_false] at he
  exact ⟨a, x, he, h⟩
theorem st3_of {g : Goroutine} {w : World} (h : AtD3 P ty Wg C 1 0 1 g w) : St3 P ty Wg C g w :=
  ⟨h.1, fun hw => let ⟨g', h1, m, h2⟩ := h.2 hw; ⟨g', _, h1, atm_one _ _ rfl, m, goes_imp rkeep_rw (fun _ _ _ x => x) (fun _ _ => st4_of) h2⟩⟩
theorem st2_of {g : Goroutine} {w : World} (h : AtD2 P ty Wg C 1 0 1 g w) : St2 P ty Wg C g w :=
  ⟨h.1, fun hw => let ⟨g', h1, m, h2⟩ := h.2 hw; ⟨g', _, h1, atm_one _ _ rfl, m, goes_imp rkeep_rw (fun _ _ _ x => x) (fun _ _ => st3_of) h2⟩⟩
theorem st1_of {g : Goroutine} {w : World} (h : AtD1 P ty Wg C 1 0 1 g w) : St1 P ty Wg C g w := by
  refine ⟨h.1, fun v wt h1 h2 hw => ?_⟩
  obtain ⟨g', hgo, hl, hq⟩ := h.2 v wt h1 h2 hw
  refine ⟨g', _, hgo, .inl fun e he => ?_, fun hz => ?_, hq⟩
  · simp only [List.mem_toArray, List.mem_cons, List.not_mem_nil, or_false] at he
    rcases he with rfl | rfl
    · exact ⟨_, _, rfl, rfl⟩
    · exact ⟨_, _, rfl, rfl⟩
  · obtain ⟨m, h3⟩ := hl hz
    exact ⟨m, goes_imp rkeep_rw (fun _ _ _ x => x) (fun _ _ => st2_of) h3⟩
theorem stK_of {g : Goroutine} {w : World} (h : AtK1 P ty Wg C 1 0 1 g w) : StK P ty Wg C g w :=
  ⟨h.1, let ⟨g', h1, m, h2⟩ := h.2; ⟨g', h1, m, goes_imp rkeep_rw (fun _ _ _ x => x) (fun _ _ => st1_of) h2⟩⟩

/-- The library's judgement, ahead of the release. -/
abbrev KG (P : Program) (ty : TypeId) (Wg C : Nat) (v : Value) (n : Nat) (g : Goroutine) (w : World) : Prop :=
  Goes P false (RW ty Wg C 1 0 0) (DWs Wg (fun _ _ => False) (fun _ _ => False) C 1 1) (AtR0 P ty Wg C 1 0 1 v) n g w
theorem rw_refl (w : World) : RW ty Wg C 1 0 0 w w := ⟨fun _ _ _ _ => rfl, id, id, rfl⟩
/-- A step that lists no release is no stop of it. -/
theorem kg_step {v : Value} {n : Nat} {g g' : Goroutine} {w w' : World} {es : Array Event} {Q : Prop} (hs : stepG P false g w = .go g' w' es) (he : es ≠ #[mk (.releaseMerge (stA Wg))]) (k : KG P ty Wg C v n g' w' → Q) : KG P ty Wg C v (n + 1) g w → Q := by
  intro h
  rcases h with h | ⟨_, h⟩
  · obtain ⟨_, _, g₂, h2, _⟩ := h w (rw_refl w)
    rw [hs] at h2
    cases h2
    exact absurd rfl he
  · have := h w (rw_refl w)
    rw [hs, goes_go] at this
    exact k this.2
theorem kg_goes {v : Value} {n : Nat} {g : Goroutine} {w : World} {Q : Prop} (hs : (stepG P false g w).goes fun g' w' es => es ≠ #[mk (.releaseMerge (stA Wg))] ∧ (KG P ty Wg C v n g' w' → Q)) : KG P ty Wg C v (n + 1) g w → Q := by
  cases e : stepG P false g w with
  | go g' w' es => rw [e, goes_go] at hs; exact kg_step e hs.1 hs.2
  | _ => rw [e] at hs; exact hs.elim
theorem kg_end {v : Value} {g g' : Goroutine} {w w' : World} {es : Array Event} {Q : Prop} (hs : stepG P false g w = .go g' w' es) (he : es ≠ #[mk (.releaseMerge (stA Wg))]) : KG P ty Wg C v 0 g w → Q := by
  intro h
  obtain ⟨_, _, g₂, h2, _⟩ := h w (rw_refl w)
  rw [hs] at h2
  cases h2
  exact absurd rfl he
theorem kg_rel {v : Value} {n : Nat} {g g' : Goroutine} {w w' : World} {Q : Prop} (hs : stepG P false g w = .go g' w' #[mk (.releaseMerge (stA Wg))]) (hrun : g.status = .running) (hit : StR P ty Wg C g w → Q) (k : KG P ty Wg C v n g' w' → Q) : KG P ty Wg C v (n + 1) g w → Q := by
  intro h
  rcases h with h | ⟨_, h⟩
  · obtain ⟨_, _, g₂, h2, m, h3⟩ := h w (rw_refl w)
    exact hit ⟨hrun, g₂, h2, m, goes_imp rkeep_rw (fun _ _ _ x => x) (fun _ _ => stK_of) h3⟩
  · have := h w (rw_refl w)
    rw [hs, goes_go] at this
    exact k this.2
end

section
variable {P : Program} {L : WgLink} {Wg C : Nat}
theorem done_rl {w w₁ : World} (h : WgLive L.tWg Wg w ∧ ∃ v, w.cell? ⟨C, 0, none⟩ = some v) (r : RKeep L.tWg Wg C w w₁) : WgLive L.tWg Wg w₁ ∧ ∃ v, w₁.cell? ⟨C, 0, none⟩ = some v :=
  ⟨r.1 h.1, let ⟨v, hv⟩ := h.2; ⟨v, (cell_of_block (a := ⟨C, 0, none⟩) r.2).trans hv⟩⟩

set_option maxRecDepth 100000 in
theorem done_walk (H : WgLib P L) {c : Frame} {cs : List Frame} {qt : Nat} (hcm : c.mode = .returning) (hT : QuitsD P qt 0 (G c cs)) (w : World) (hK : WgLive L.tWg Wg w ∧ ∃ v, w.cell? ⟨C, 0, none⟩ = some v) :
    Goes P false (RKeep L.tWg Wg C) D0 (StR P L.tWg Wg C) 20 (G ((baseD L.done).at ⟨#[.pointer (some ⟨Wg, 0, none⟩), undef, undef, undef], []⟩ [.code (body_done L)]) (c :: cs)) w := by
  letI : Payload := ⟨0⟩
  have kit := fun (w : World) (v : Value) h => @doneN _ L P H (fun _ _ => False) (fun _ _ => False) Wg C 1 0 1 v c cs qt hcm hT w h
  lib_facts
  simp only [body_done, doneFn, Option.getD_some] at kit ⊢
  u_reg done_rl hK
  u_op done_rl hK
  u_in done_rl hK
  refine goes_call rfl rfl (by k_ne) rfl H.f_add (nm_add L) rfl ⟨by u_nil, ?_⟩
  walk_nrmf addFn
  repeat (first | u_c stepG_seq done_rl hK | u_cond true done_rl hK | u_reg done_rl hK | u_op done_rl hK | u_c stepG_region_end done_rl hK)
  u_conv H.underlying_tWgP H.room_tWg (Go.ConcN.Gen.WgLive.cell0 hK.1).choose_spec done_rl hK
  refine Goes.stop (fun w₁ h₁ => ?_)
  replace hK := done_rl hK h₁
  clear h₁
  obtain ⟨v, hv⟩ := hK.2
  have h := kit w₁ v ⟨hK.1, hv⟩
  revert h
  refine kg_goes ?_
  rw [stepG_region]
  simp only [goes_go, List.size_toArray, List.length_cons, List.length_nil, Nat.reduceAdd, Nat.zero_add, List.range, List.range.loop]
  refine ⟨by simp, ?_⟩
  refine kg_goes ?_
  refine goes_oper_k rfl rfl (by k_ne) (fun K hK' => ?_)
  go_simp
  refine hK' _ _ ⟨?_, ?_⟩
  · intro hx
    have hm := mem_listed (e := mk (.releaseMerge (stA Wg))) (by rw [hx]; simp)
    simp [go_sem, *] at hm
  clear hK' K
  try w_num
  refine kg_goes ?_
  refine goes_call rfl rfl (by k_ne) rfl H.f_add (nm_add L) rfl ⟨by simp, ?_⟩
  walk_nrmf addFn
  refine kg_goes ?_
  rw [stepG_seq]
  simp only [goes_go]
  refine ⟨by simp, ?_⟩
  refine kg_goes ?_
  rw [stepG_cond (t := true) rfl]
  simp only [goes_go, ↓reduceIte]
  refine ⟨by simp, ?_⟩
  refine kg_goes ?_
  rw [stepG_seq]
  simp only [goes_go]
  refine ⟨by simp, ?_⟩
  refine kg_goes ?_
  rw [stepG_seq]
  simp only [goes_go]
  refine ⟨by simp, ?_⟩
  refine kg_goes ?_
  rw [stepG_region]
  simp only [goes_go, List.size_toArray, List.length_cons, List.length_nil, Nat.reduceAdd, Nat.zero_add, List.range, List.range.loop]
  refine ⟨by simp, ?_⟩
  refine kg_goes ?_
  refine goes_oper_k rfl rfl (by k_ne) (fun K hK' => ?_)
  go_simp
  refine hK' _ _ ⟨?_, ?_⟩
  · intro hx
    have hm := mem_listed (e := mk (.releaseMerge (stA Wg))) (by rw [hx]; simp)
    simp [go_sem, *] at hm
  clear hK' K
  try w_num
  refine kg_goes ?_
  refine goes_oper_k rfl rfl (by k_ne) (fun K hK' => ?_)
  go_simp
  refine hK' _ _ ⟨?_, ?_⟩
  · intro hx
    have hm := mem_listed (e := mk (.releaseMerge (stA Wg))) (by rw [hx]; simp)
    simp [go_sem, *] at hm
  clear hK' K
  try w_num
  refine kg_goes ?_
  rw [stepG_region_end]
  simp only [goes_go]
  refine ⟨by simp, ?_⟩
  refine kg_goes ?_
  rw [stepG_cond (t := true) rfl]
  simp only [goes_go, ↓reduceIte]
  refine ⟨by simp, ?_⟩
  refine kg_goes ?_
  rw [stepG_region]
  simp only [goes_go, List.size_toArray, List.length_cons, List.length_nil, Nat.reduceAdd, Nat.zero_add, List.range, List.range.loop]
  refine ⟨by simp, ?_⟩
  refine kg_goes ?_
  refine goes_oper_k rfl rfl (by k_ne) (fun K hK' => ?_)
  go_simp
  refine hK' _ _ ⟨?_, ?_⟩
  · intro hx
    have hm := mem_listed (e := mk (.releaseMerge (stA Wg))) (by rw [hx]; simp)
    simp [go_sem, *] at hm
  clear hK' K
  try w_num
  refine kg_goes ?_
  refine goes_oper_k rfl rfl (by k_ne) (fun Kx hKx => ?_)
  have hcv := run_convert_to_unsafe (P := P) H.underlying_tWgP H.underlying_tUP H.room_tWg (Go.ConcN.Gen.WgLive.cell0 hK.1).choose_spec
  have hce := fun es => events_convert_to_unsafe (P := P) H.underlying_tWgP H.underlying_tUP H.room_tWg (Go.ConcN.Gen.WgLive.cell0 hK.1).choose_spec es
  go_simp
  refine hKx _ _ ⟨?_, ?_⟩
  · intro hx
    have hm := mem_listed (e := mk (.releaseMerge (stA Wg))) (by rw [hx]; simp)
    simp [go_sem, hce] at hm
  clear hKx Kx hcv hce
  refine kg_rel (stepG_markAt .releaseMerge (by simp) rfl rfl (by k_ne) rfl H.f_relMerge (x_relMerge_n L) (x_relMerge_b L) (x_relMerge_x L) (x_relMerge_f L) (by simp [Act.eval, stA])) rfl (fun x => x) ?_
  walk_nrm
  refine kg_goes ?_
  rw [stepG_region_end]
  simp only [goes_go]
  refine ⟨by simp, ?_⟩
  refine kg_goes ?_
  rw [stepG_seq]
  simp only [goes_go]
  refine ⟨by simp, ?_⟩
  refine kg_goes ?_
  rw [stepG_region]
  simp only [goes_go, List.size_toArray, List.length_cons, List.length_nil, Nat.zero_add, List.range, List.range.loop]
  refine ⟨by simp, ?_⟩
  refine kg_step (stepG_mark0 .disable (by simp) rfl rfl (by k_ne) rfl H.f_disable (x_disable_n L) (x_disable_b L) (x_disable_x L) (x_disable_f L)) (by simp [mk]) ?_
  walk_nrm
  refine kg_goes ?_
  rw [stepG_region_end]
  simp only [goes_go]
  refine ⟨by simp, ?_⟩
  refine kg_goes ?_
  rw [stepG_region]
  simp only [goes_go, List.size_toArray, List.length_cons, List.length_nil, Nat.zero_add, List.range, List.range.loop]
  refine ⟨by simp, ?_⟩
  refine kg_goes ?_
  rw [stepG_defer rfl rfl (by k_ne) rfl]
  simp only [goes_go]
  refine ⟨by simp, ?_⟩
  walk_nrm
  exact kg_end stepG_region_end (by simp)
end
end Cw
end

/-! ### CwU -/
section
namespace Cw
open Go Go.Conc Go.ConcN Go.RowKit Go.Conc.Lib Go.ConcR.Gen
open Go.ConcR (KK wgBlock WgAt stA smA rd wr mk Payload DC0)

/-- Nobody turns what is old. -/
abbrev Rz (w w₁ : World) : Prop := Ext (fun _ => False) w w₁
theorem rz_trans (a b c : World) (h : Rz a b) (k : Rz b c) : Rz a c := h.trans k
/-- The holder's next step lists what E says. -/
def Sp (P : Program) (mn : Bool) (E : Array Event → Prop) (F : World → World) (Q : Goroutine → World → Prop) (g : Goroutine) (w : World) : Prop :=
  g.status = .running ∧ ∀ w₁, Rz w w₁ → ∃ g' es, stepG P mn g w₁ = .go g' (F w₁) es ∧ E es ∧ ∃ m, Goes P mn Rz D0 Q m g' (F w₁)

section
variable {P : Program} {mn : Bool} {L : WgLink} {Wg : Nat} {b₀ : Frame} {a₀ : Act} {ops₀ : Array Oper} {i₀ : Nat} {rest₀ : List Nat} {k₀ : List Item} {cs : List Frame} {K : World → Prop} {st sm : Int}
theorem add_rl (hKr : ∀ w w₁, Rz w w₁ → K w → K w₁) {w w₁ : World} (h : WgAt L.tWg Wg w st sm ∧ K w) (r : Rz w w₁) : WgAt L.tWg Wg w₁ st sm ∧ K w₁ := by
  refine ⟨?_, hKr _ _ r h.2⟩
  have h1 := h.1
  unfold WgAt at h1 ⊢
  rw [r.same Wg (Array.getElem?_eq_some_iff.1 h1).1 (fun x => x)]
  exact h1

/-- Behind the Add. -/
def BackK (b₀ : Frame) (a₀ : Act) (ops₀ : Array Oper) (i₀ : Nat) (rest₀ : List Nat) (k₀ : List Item) (cs : List Frame) (ty : TypeId) (Wg : Nat) (S : Int) (K : World → Prop) (g : Goroutine) (w : World) : Prop :=
  g = G (b₀.at (a₀.put ((ops₀[i₀]?).bind (·.dst)) (.tuple #[])) (.inRegion ops₀ rest₀ :: k₀)) cs ∧ WgAt ty Wg w S 0 ∧ K w
/-- What the atomic add lists. -/
def AddEs (Wg : Nat) (es : Array Event) : Prop := es = #[⟨.cell (stA Wg), false, true⟩, ⟨.cell (stA Wg), true, true⟩]

set_option maxRecDepth 100000 in
set_option maxHeartbeats 8000000 in
theorem add_walk (H : WgLib P L) (hKr : ∀ w w₁, Rz w w₁ → K w → K w₁) (hKs : ∀ w x, K w → K (w.setCell (stA Wg) x)) (v : Nat) (hv : v < 2147483646) (w : World) (hF : WgAt L.tWg Wg w ((v : Int) * KK) 0 ∧ K w) :
    Goes P mn Rz D0 (Sp P mn (· = #[mk .disable]) id (Sp P mn (AddEs Wg) (fun w => w.setCell (stA Wg) (.int .u64 (((v : Int) + 1) * KK))) fun g w =>
      (v = 0 → Sp P mn (· = #[mk (.read ⟨Wg, 1, none⟩)]) id (Sp P mn (· = #[mk .enable]) id (BackK b₀ a₀ ops₀ i₀ rest₀ k₀ cs L.tWg Wg (((v : Int) + 1) * KK) K)) g w) ∧
      (v ≠ 0 → Sp P mn (· = #[mk .enable]) id (BackK b₀ a₀ ops₀ i₀ rest₀ k₀ cs L.tWg Wg (((v : Int) + 1) * KK) K) g w))) 12
      (G ((base L.add).at ⟨#[.pointer (some ⟨Wg, 0, none⟩), .int .i64 1, undef, undef, undef, undef, undef, undef, undef, undef, undef, undef, undef, undef, undef, undef, undef, undef, undef, undef, undef, undef, undef, undef, undef, undef, undef, undef, undef, undef, undef, undef, undef, undef, undef, undef, undef, undef, undef, undef, undef, undef, undef, undef, undef, undef, undef, undef, undef, undef, undef, undef, undef, undef, undef, undef, undef, undef, undef, undef, undef, undef, undef, undef, undef, undef, undef, undef, undef, undef, undef, undef, undef, undef, undef, undef, undef, undef, undef, undef, undef, undef, undef, undef, undef, undef, undef, undef, undef, undef, undef, undef, undef, undef, undef, undef, undef, undef, undef, undef, undef, undef, undef, undef, undef, undef, undef, undef, undef, undef, undef, undef, undef, undef, undef, undef, undef], []⟩ [.code (body_add L)]) (b₀.at a₀ (.inRegion ops₀ (i₀ :: rest₀) :: k₀) :: cs)) w := by
  lib_facts
  simp only [body_add, addFn, Option.getD_some]
  u_c stepG_seq (add_rl hKr) hF
  u_cond true (add_rl hKr) hF
  u_c stepG_seq (add_rl hKr) hF
  u_c stepG_seq (add_rl hKr) hF
  u_reg (add_rl hKr) hF
  u_op (add_rl hKr) hF
  u_op (add_rl hKr) hF
  u_c stepG_region_end (add_rl hKr) hF
  u_cond false (add_rl hKr) hF
  u_c stepG_skip (add_rl hKr) hF
  u_c stepG_seq (add_rl hKr) hF
  u_reg (add_rl hKr) hF
  refine Goes.stop (fun w₁ h₁ => ?_)
  replace hF := add_rl hKr hF h₁
  clear h₁
  refine ⟨rfl, fun w₁ h₁ => ?_⟩
  replace hF := add_rl hKr hF h₁
  clear h₁
  refine ⟨_, _, stepG_mark0 .disable (by simp) rfl rfl (by k_ne) rfl H.f_disable (x_disable_n L) (x_disable_b L) (x_disable_x L) (x_disable_f L), rfl, 128, ?_⟩
  walk_nrm
  u_c stepG_region_end (add_rl hKr) hF
  u_reg (add_rl hKr) hF
  u_defer (add_rl hKr) hF
  u_c stepG_region_end (add_rl hKr) hF
  u_c stepG_seq (add_rl hKr) hF
  u_reg (add_rl hKr) hF
  u_op (add_rl hKr) hF
  u_c stepG_region_end (add_rl hKr) hF
  u_c stepG_seq (add_rl hKr) hF
  u_c stepG_seq (add_rl hKr) hF
  u_reg (add_rl hKr) hF
  u_bub (add_rl hKr) hF
  u_c stepG_region_end (add_rl hKr) hF
  u_cond false (add_rl hKr) hF
  u_c stepG_skip (add_rl hKr) hF
  u_c stepG_seq (add_rl hKr) hF
  u_reg (add_rl hKr) hF
  u_op (add_rl hKr) hF
  u_op (add_rl hKr) hF
  u_op (add_rl hKr) hF
  u_op (add_rl hKr) hF
  u_op (add_rl hKr) hF
  u_op (add_rl hKr) hF
  u_call H.f_uAdd (nm_uAdd L) uAddFn (add_rl hKr) hF
  u_c stepG_seq (add_rl hKr) hF
  u_reg (add_rl hKr) hF
  u_op (add_rl hKr) hF
  u_c stepG_region_end (add_rl hKr) hF
  u_c stepG_seq (add_rl hKr) hF
  u_reg (add_rl hKr) hF
  u_op (add_rl hKr) hF
  u_op (add_rl hKr) hF
  u_op (add_rl hKr) hF
  u_op (add_rl hKr) hF
  refine Goes.stop (fun w₂ h₂ => ?_)
  replace hF := add_rl hKr hF h₂
  clear h₂
  refine ⟨rfl, fun w₂ h₂ => ?_⟩
  replace hF := add_rl hKr hF h₂
  clear h₂
  obtain ⟨S, hS⟩ : ∃ S : Int, ((v : Int) + 1) * KK = S := ⟨_, rfl⟩
  have w1 : IntKind.u64.wrap ((v : Int) * KK + 4294967296) = S := by rw [IntKind.wrap_u64, ← hS]; simp only [KK]; omega
  refine ⟨_, _, (stepG_add_atomic rfl rfl (by k_ne) rfl H.f_addU64 (x_addU64_n L) (x_addU64_b L) (x_addU64_x L) .u64 (x_addU64_f L) rfl rfl hF.1.cellSt (hF.1.thaw 0)).trans (by rw [w1, hS]), rfl, 128, ?_⟩
  rw [hS]
  replace hF : WgAt L.tWg Wg (w₂.setCell (stA Wg) (.int .u64 S)) S 0 ∧ K (w₂.setCell (stA Wg) (.int .u64 S)) := ⟨hF.1.setSt S, hKs _ _ hF.2⟩
  clear w1
  rcases Nat.eq_zero_or_pos v with rfl | hvp
  · obtain rfl : (4294967296 : Int) = S := by rw [← hS]; simp [KK]
    clear hS
    walk_nrm
    u_op (add_rl hKr) hF
    u_c stepG_region_end (add_rl hKr) hF
    u_c stepG_ret' (add_rl hKr) hF
    u_leave1 H.f_uAdd (add_rl hKr) hF
    u_op (add_rl hKr) hF
    u_c stepG_region_end (add_rl hKr) hF
    u_c stepG_seq (add_rl hKr) hF
    u_c stepG_seq (add_rl hKr) hF
    u_reg (add_rl hKr) hF
    u_op (add_rl hKr) hF
    u_op (add_rl hKr) hF
    u_op (add_rl hKr) hF
    u_op (add_rl hKr) hF
    u_skip (add_rl hKr) hF
    u_skip (add_rl hKr) hF
    u_op (add_rl hKr) hF
    u_c stepG_region_end (add_rl hKr) hF
    u_cond false (add_rl hKr) hF
    u_c stepG_skip (add_rl hKr) hF
    u_c stepG_seq (add_rl hKr) hF
    u_reg (add_rl hKr) hF
    u_op (add_rl hKr) hF
    u_op (add_rl hKr) hF
    u_op (add_rl hKr) hF
    u_op (add_rl hKr) hF
    u_c stepG_region_end (add_rl hKr) hF
    u_c stepG_seq (add_rl hKr) hF
    u_reg (add_rl hKr) hF
    u_op (add_rl hKr) hF
    u_op (add_rl hKr) hF
    u_op (add_rl hKr) hF
    u_op (add_rl hKr) hF
    u_c stepG_region_end (add_rl hKr) hF
    u_c stepG_seq (add_rl hKr) hF
    u_c stepG_seq (add_rl hKr) hF
    u_reg (add_rl hKr) hF
    u_op (add_rl hKr) hF
    u_op (add_rl hKr) hF
    u_op (add_rl hKr) hF
    u_op (add_rl hKr) hF
    u_op (add_rl hKr) hF
    u_op (add_rl hKr) hF
    u_op (add_rl hKr) hF
    u_op (add_rl hKr) hF
    u_op (add_rl hKr) hF
    u_op (add_rl hKr) hF
    u_c stepG_region_end (add_rl hKr) hF
    u_cond true (add_rl hKr) hF
    u_reg (add_rl hKr) hF
    u_op (add_rl hKr) hF
    u_op (add_rl hKr) hF
    u_op (add_rl hKr) hF
    u_conv H.underlying_tPU32 H.room_tU32 (show World.cell? _ ⟨Wg, 1, none⟩ = some _ from hF.1.cellSm) (add_rl hKr) hF
    refine Goes.stop (fun w₃ h₃ => ?_)
    replace hF := add_rl hKr hF h₃
    clear h₃
    refine ⟨fun _ => ⟨rfl, fun w₃ h₃ => ?_⟩, fun h => absurd rfl h⟩
    replace hF := add_rl hKr hF h₃
    clear h₃
    refine ⟨_, _, stepG_markAt .read (by simp) rfl rfl (by k_ne) rfl H.f_raceRead (x_raceRead_n L) (x_raceRead_b L) (x_raceRead_x L) (x_raceRead_f L) (ad := ⟨Wg, 1, none⟩) (by simp [Act.eval]), rfl, 128, ?_⟩
    walk_nrm
    u_c stepG_region_end (add_rl hKr) hF
    u_c stepG_seq (add_rl hKr) hF
    u_c stepG_seq (add_rl hKr) hF
    u_reg (add_rl hKr) hF
    u_op (add_rl hKr) hF
    u_op (add_rl hKr) hF
    u_c stepG_region_end (add_rl hKr) hF
    u_cond false (add_rl hKr) hF
    u_c stepG_skip (add_rl hKr) hF
    u_c stepG_seq (add_rl hKr) hF
    u_c stepG_seq (add_rl hKr) hF
    u_reg (add_rl hKr) hF
    u_op (add_rl hKr) hF
    u_op (add_rl hKr) hF
    u_op (add_rl hKr) hF
    u_skip (add_rl hKr) hF
    u_skip (add_rl hKr) hF
    u_op (add_rl hKr) hF
    u_op (add_rl hKr) hF
    u_skip (add_rl hKr) hF
    u_skip (add_rl hKr) hF
    u_skip (add_rl hKr) hF
    u_skip (add_rl hKr) hF
    u_op (add_rl hKr) hF
    u_c stepG_region_end (add_rl hKr) hF
    u_cond false (add_rl hKr) hF
    u_c stepG_skip (add_rl hKr) hF
    u_c stepG_seq (add_rl hKr) hF
    u_c stepG_seq (add_rl hKr) hF
    u_reg (add_rl hKr) hF
    u_op (add_rl hKr) hF
    u_op (add_rl hKr) hF
    u_op (add_rl hKr) hF
    u_skip (add_rl hKr) hF
    u_skip (add_rl hKr) hF
    u_op (add_rl hKr) hF
    u_c stepG_region_end (add_rl hKr) hF
    u_cond true (add_rl hKr) hF
    u_c stepG_ret' (add_rl hKr) hF
    refine Goes.stop (fun w₄ h₄ => ?_)
    replace hF := add_rl hKr hF h₄
    clear h₄
    refine ⟨rfl, fun w₄ h₄ => ?_⟩
    replace hF := add_rl hKr hF h₄
    clear h₄
    refine ⟨_, _, stepG_unwind_entry (v := .tuple #[]) (evs := #[mk .enable]) rfl H.f_enable (x_enable_n L) (x_enable_b L) (x_enable_x L) (x_enable_f L) (by simp [Extern.Race.none_]) (by simp [mk]) (by simp [mk]), rfl, 1, ?_⟩
    u_leave0 H.f_add (add_rl hKr) hF
    exact Goes.stop fun _ h => ⟨rfl, add_rl hKr hF h⟩
  · have a1 : S / 4294967296 = (v : Int) + 1 := by rw [← hS]; simp only [KK]; omega
    have b1 : bits .and .u64 S 2147483648 = 0 := by rw [← hS]; have := st_flag (v + 1) 0 (by omega) (by omega); simpa [KK] using this
    have b2 : bits .and .u64 S 2147483647 = 0 := by rw [← hS]; have := st_waiters (v + 1) 0 (by omega) (by omega); simpa [KK] using this
    have c1 : IntKind.i32.wrap ((v : Int) + 1) = (v : Int) + 1 := by rw [IntKind.wrap_i32]; omega
    have q1 : ((v : Int) + 1 == 1) = false := by simp; omega
    have q2 : decide ((v : Int) + 1 = 1) = false := decide_eq_false (by omega)
    have q3 : decide ((v : Int) + 1 < 0) = false := decide_eq_false (by omega)
    have q4 : decide (0 < (v : Int) + 1) = true := decide_eq_true (by omega)
    walk_nrm
    u_op (add_rl hKr) hF
    u_c stepG_region_end (add_rl hKr) hF
    u_c stepG_ret' (add_rl hKr) hF
    u_leave1 H.f_uAdd (add_rl hKr) hF
    u_op (add_rl hKr) hF
    u_c stepG_region_end (add_rl hKr) hF
    u_c stepG_seq (add_rl hKr) hF
    u_c stepG_seq (add_rl hKr) hF
    u_reg (add_rl hKr) hF
    u_op (add_rl hKr) hF
    u_op (add_rl hKr) hF
    u_op (add_rl hKr) hF
    u_op (add_rl hKr) hF
    u_skip (add_rl hKr) hF
    u_skip (add_rl hKr) hF
    u_op (add_rl hKr) hF
    u_c stepG_region_end (add_rl hKr) hF
    u_cond false (add_rl hKr) hF
    u_c stepG_skip (add_rl hKr) hF
    u_c stepG_seq (add_rl hKr) hF
    u_reg (add_rl hKr) hF
    u_op (add_rl hKr) hF
    u_op (add_rl hKr) hF
    u_op (add_rl hKr) hF
    u_op (add_rl hKr) hF
    u_c stepG_region_end (add_rl hKr) hF
    u_c stepG_seq (add_rl hKr) hF
    u_reg (add_rl hKr) hF
    u_op (add_rl hKr) hF
    u_op (add_rl hKr) hF
    u_op (add_rl hKr) hF
    u_op (add_rl hKr) hF
    u_c stepG_region_end (add_rl hKr) hF
    u_c stepG_seq (add_rl hKr) hF
    u_c stepG_seq (add_rl hKr) hF
    u_reg (add_rl hKr) hF
    u_op (add_rl hKr) hF
    u_op (add_rl hKr) hF
    u_op (add_rl hKr) hF
    u_op (add_rl hKr) hF
    u_op (add_rl hKr) hF
    u_op (add_rl hKr) hF
    u_op (add_rl hKr) hF
    u_op (add_rl hKr) hF
    u_op (add_rl hKr) hF
    u_op (add_rl hKr) hF
    u_c stepG_region_end (add_rl hKr) hF
    u_cond false (add_rl hKr) hF
    u_c stepG_skip (add_rl hKr) hF
    u_c stepG_seq (add_rl hKr) hF
    u_c stepG_seq (add_rl hKr) hF
    u_reg (add_rl hKr) hF
    u_op (add_rl hKr) hF
    u_op (add_rl hKr) hF
    u_c stepG_region_end (add_rl hKr) hF
    u_cond false (add_rl hKr) hF
    u_c stepG_skip (add_rl hKr) hF
    u_c stepG_seq (add_rl hKr) hF
    u_c stepG_seq (add_rl hKr) hF
    u_reg (add_rl hKr) hF
    u_op (add_rl hKr) hF
    u_op (add_rl hKr) hF
    u_op (add_rl hKr) hF
    u_skip (add_rl hKr) hF
    u_skip (add_rl hKr) hF
    u_op (add_rl hKr) hF
    u_op (add_rl hKr) hF
    u_skip (add_rl hKr) hF
    u_skip (add_rl hKr) hF
    u_skip (add_rl hKr) hF
    u_skip (add_rl hKr) hF
    u_op (add_rl hKr) hF
    u_c stepG_region_end (add_rl hKr) hF
    u_cond false (add_rl hKr) hF
    u_c stepG_skip (add_rl hKr) hF
    u_c stepG_seq (add_rl hKr) hF
    u_c stepG_seq (add_rl hKr) hF
    u_reg (add_rl hKr) hF
    u_op (add_rl hKr) hF
    u_op (add_rl hKr) hF
    u_op (add_rl hKr) hF
    u_skip (add_rl hKr) hF
    u_skip (add_rl hKr) hF
    u_op (add_rl hKr) hF
    u_c stepG_region_end (add_rl hKr) hF
    u_cond true (add_rl hKr) hF
    u_c stepG_ret' (add_rl hKr) hF
    refine Goes.stop (fun w₃ h₃ => ?_)
    replace hF := add_rl hKr hF h₃
    clear h₃
    refine ⟨fun h => absurd h (by omega), fun _ => ⟨rfl, fun w₃ h₃ => ?_⟩⟩
    replace hF := add_rl hKr hF h₃
    clear h₃
    refine ⟨_, _, stepG_unwind_entry (v := .tuple #[]) (evs := #[mk .enable]) rfl H.f_enable (x_enable_n L) (x_enable_b L) (x_enable_x L) (x_enable_f L) (by simp [Extern.Race.none_]) (by simp [mk]) (by simp [mk]), rfl, 1, ?_⟩
    u_leave0 H.f_add (add_rl hKr) hF
    exact Goes.stop fun _ h => ⟨rfl, add_rl hKr hF h⟩
end
end Cw
end

/-! ### CwP -/
section
namespace Cw
open Go Go.Conc
open Go.ConcN (WgLive)
open Go.ConcR (WgAt)

/-! ### parts of a code -/
def lf : Code → Code
  | .seq a _ => a
  | _ => .skip
def rt : Code → Code
  | .seq _ b => b
  | _ => .skip
def opsOf : Code → Array Oper
  | .region _ ops _ => ops
  | _ => #[]
def inner : Code → Code
  | .block _ c => c
  | .loop c => c
  | _ => .skip

/-! ### a bystander's way -/
section
variable {P : Program} {Bx : Value → TypeId → Prop} {main : Bool} {c : Nat} {z : Value} {home : Hm} {n : Nat} {L : Addr → Value → Prop} {g : Goroutine}
theorem Way.goes (hs : g.status = .running) (h : ∀ w, Kl L w → (stepG P main g w).goes fun g' w' es =>
      (w' = w ∧ (∀ e ∈ es, EvR L e) ∧ Way P Bx main c z home n L g') ∨ (∃ v ty, w' = w.alloc (.cells #[v] ty) ∧ es = #[] ∧ Bx v ty ∧ Way P Bx main c z home n (plus L w.heap.size v) g')) : Way P Bx main c z home (n + 1) L g := by
  refine .inr ⟨hs, fun w hw => ?_⟩
  have h1 := h w hw
  cases e : stepG P main g w with
  | go g' w' es =>
    rw [e, goes_go] at h1
    rcases h1 with ⟨rfl, h2, h3⟩ | ⟨v, ty, rfl, rfl, h2, h3⟩
    · exact .inl ⟨g', es, rfl, h2, h3⟩
    · exact .inr ⟨g', v, ty, rfl, h2, h3⟩
  | _ => rw [e] at h1; exact h1.elim
theorem Way.stop (h : AtS P main c z home L g g) : Way P Bx main c z home n L g := by
  cases n with
  | zero => exact ⟨g, h⟩
  | succ n => exact .inl ⟨g, h⟩
theorem atS_of {b : Frame} {a : Act} {k : List Item} {cs : List Frame} {ops : Array Oper} {i : Nat} {rest : List Nat} {o : Oper} (ho : ops[i]? = some o) (hw : Region.wanted o (yielded ops a.tmps) = true) (hk : b.kind ≠ .early)
    (hr : ∀ w, (execOp a.eval o).run P w = .ok (.comm #[rcase c z] true (.recv false)) w) (he : ∀ w, (execOp a.eval o).events P w #[] = #[]) (hh : home (G (b.at a (.inRegion ops (i :: rest) :: k)) cs) L) :
    AtS P main c z home L (G (b.at a (.inRegion ops (i :: rest) :: k)) cs) (G (b.at a (.inRegion ops (i :: rest) :: k)) cs) :=
  ⟨rfl, hh, #[], fun e he => by simp at he, fun w _ => by rw [stepG_comm ho hw hk (hr w), listed_nil (he w)]⟩
end

/-! ### the holder's guarantee -/
def HDq (X : Cx) (w w' : World) (es : Array Event) : Prop := HD X w w' es ∧ ∀ e ∈ es, Quiet e
section
variable {X : Cx} {w : World}
theorem hdq_idle (X : Cx) (w : World) : HDq X w w #[] := ⟨⟨Env.refl X w, fun _ _ => rfl, fun _ => rfl, fun e he => by simp at he⟩, fun e he => by simp at he⟩
theorem hdq_draw (X : Cx) (w : World) : HDq X w { w with drawn := w.drawn + 1 } #[] := ⟨⟨Env.at X w _, fun _ _ => rfl, fun _ => rfl, fun e he => by simp at he⟩, fun e he => by simp at he⟩
theorem hdq_terms (X : Cx) (V : Nat → Prop) : Terms (Ext V) (HDq X) := ⟨fun _ _ _ h k => h.trans k, hdq_idle X⟩
/-- Plain reads of places that no group has. -/
theorem hdq_read {es : Array Event} (h : ∀ e ∈ es, ∃ a : Addr, e = ⟨.cell a, false, false⟩ ∧ a.block < w.heap.size ∧ ¬ X.Sh (.cell a)) : HDq X w w es := by
  refine ⟨⟨Env.refl X w, fun _ _ => rfl, fun _ => rfl, fun e he => ?_⟩, fun e he => ?_⟩
  · obtain ⟨a, rfl, hl, hs⟩ := h e he
    refine ⟨fun x hx => ?_, fun a' => by simp, hl⟩
    simp only [MemAct.ofEvent, MemAct.touch?, Option.some.injEq] at hx
    subst hx
    exact ⟨fun hS => absurd hS hs, fun hw => by cases hw⟩
  · obtain ⟨a, rfl, _⟩ := h e he
    exact ⟨by simp, by simp⟩
/-- A block is made; nothing of the heap is touched. -/
theorem hdq_alloc {o : Obj} {es : Array Event} (hst : ∀ a, X.St a → a.block < w.heap.size) (hch : ∀ c, X.Ch c → c < w.heap.size) (hwg : X.on → X.Wg < w.heap.size) (hes : ∀ e ∈ es, e = ⟨.mark .noRoom, false, true⟩) : HDq X w (w.alloc o) es := by
  refine ⟨⟨⟨by simp, fun a ha => cell_of_block (heap_alloc_old _ _ _ (hst a ha)), fun b ⟨v, ty, hv, _⟩ => heap_alloc_old _ _ _ (Array.getElem?_eq_some_iff.1 hv).1, fun _ ⟨st, sm, hw⟩ => ⟨st, sm, ?_⟩, rfl, rfl⟩, fun c hc => heap_alloc_old _ _ _ (hch c hc), fun o => heap_alloc_old _ _ _ (hwg o), fun e he => ?_⟩, fun e he => ?_⟩
  · unfold WgAt at hw ⊢
    rw [heap_alloc_old _ _ _ (Array.getElem?_eq_some_iff.1 hw).1]
    exact hw
  · obtain rfl := hes e he
    exact ⟨fun x hx => by simp [MemAct.ofEvent, MemAct.touch?] at hx, fun a' => by simp, trivial⟩
  · obtain rfl := hes e he
    exact ⟨by simp, by simp⟩
/-- A cell is written that nobody leans on. -/
theorem hdq_write {a : Addr} {v : Value} {es : Array Event} (hst : ¬ X.St a) (hbx : ¬ BoxAt X w a.block) (hch : ∀ c, X.Ch c → c ≠ a.block) (hwg : X.on → X.Wg ≠ a.block) (hsh : ¬ X.Sh (.cell a)) (hlt : a.block < w.heap.size)
    (hoth : ∀ a', X.St a' → (w.setCell a v).cell? a' = w.cell? a') (hes : ∀ e ∈ es, e = ⟨.cell a, true, false⟩) : HDq X w (w.setCell a v) es := by
  refine ⟨⟨⟨by rw [size_setCell']; exact Nat.le_refl _, hoth, fun b hb => heap_setCell_ne w a v fun e => hbx (e ▸ hb), fun o ⟨st, sm, hw⟩ => ⟨st, sm, ?_⟩, rfl, rfl⟩, fun c hc => heap_setCell_ne w a v (hch c hc), fun o => heap_setCell_ne w a v (hwg o), fun e he => ?_⟩, fun e he => ?_⟩
  · unfold WgAt at hw ⊢
    rw [heap_setCell_ne w a v (hwg o)]
    exact hw
  · obtain rfl := hes e he
    refine ⟨fun x hx => ?_, fun a' => by simp, by rw [size_setCell']; exact hlt⟩
    simp only [MemAct.ofEvent, MemAct.touch?, Option.some.injEq] at hx
    subst hx
    refine ⟨fun hS => absurd hS hsh, fun _ a' e => ?_⟩
    obtain rfl := Loc.cell.inj e
    rintro (h | ⟨_, _, h⟩)
    · exact hst h
    · exact hbx h
  · obtain rfl := hes e he
    exact ⟨by simp, by simp⟩
end
end Cw
end
end Go.Proofs.Ytggfcdhkgldbfaa
