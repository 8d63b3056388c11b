/-
  PARTS of a claim, merged by segs.py: CwW.
-/
import Derived.Test.YtggfcdhkgldbfaaDoorS05
namespace Go.Proofs.YtggfcdhkgldbfaaDoor
set_option linter.unusedSimpArgs false
set_option linter.unusedVariables false

/-! ### CwW -/
section
namespace Cw
open Go Go.Conc
open Go.ConcN (sumTo upd upd_same upd_ne sumTo_upd sumTo_congr WgLive le_sumTo)
open Go.ConcR (KK wgBlock WgAt stA smA rd wr)

/-- How the group's two cells stand: 'norm wt': the count, and whether the holder has registered; 'last L s': the last one, L, is at stage s; 'sema': the semaphore is up; 'fin': all is done. -/
inductive Md where
  | norm (wt : Nat)
  | last (L s : Nat)
  | sema
  | fin
def MdOk (X : Cx) (h n : Nat) (B : Nat → By) (cn : Nat → Nat) (w : World) : Md → Prop
  | .norm wt => wt ≤ 1 ∧ WgAt X.ty X.Wg w ((sumTo n cn : Nat) * KK + wt) 0 ∧ (wt = 1 → 1 ≤ sumTo n cn) ∧ (∀ i s, i ≠ h → B i = .dn s → cn i = 1 ∧ 4 ≤ s) ∧ ∀ i, cn i ≠ 0 → i ≠ h ∧ ∃ s, B i = .dn s
  | .last L s => L ≠ h ∧ B L = .dn s ∧ s ≤ 3 ∧ (∀ i, i ≠ h → i ≠ L → B i = .gone) ∧ WgAt X.ty X.Wg w (if s = 1 then 0 else 1) 0
  | .sema => (∀ i, i ≠ h → B i = .gone) ∧ WgAt X.ty X.Wg w 0 1
  | .fin => (∀ i, i ≠ h → B i = .gone) ∧ WgAt X.ty X.Wg w 0 0

structure CrewD (P : Program) (X : Cx) (V : Nat → Prop) (h dh : Nat) (B : Nat → By) (cn : Nat → Nat) (T : Trace) (gs : Array Goroutine) (w : World) (q : Nat → Nat × Nat) (md : Md) : Prop where
  hlt : h < gs.size
  on : X.on
  idle : ∀ i g, i ≠ h → gs[i]? = some g → Idle P X (fun _ _ => False) T w i (q i) g (B i)
  noseat : ∀ i c z home, i ≠ h → B i ≠ .seat c z home
  out : ∀ j, gs.size ≤ j → Deaf T j = 0 ∧ B j = .gone
  hdeaf : Deaf T h = dh
  st : ∀ a, X.St a → a.block < w.heap.size ∧ a.block ≠ X.Wg ∧ ∃ v, w.cell? a = some v
  sh : ∀ a : Addr, a.block = X.Wg → X.Sh (.cell a)
  shlow : ∀ a, X.Sh (.cell a) → a.block < w.heap.size
  exlow : ∀ b, X.Ex b → b < w.heap.size
  few : sumTo gs.size cn < 2147483647
  vol : V X.Wg
  md : MdOk X h gs.size B cn w md
  past : Tr X.Sh (fun _ _ => False) (fun _ => False) (fun _ => False) (fun _ => False) w.heap.size (Knows T h) T

section
variable {P : Program} {X : Cx} {V : Nat → Prop} {h dh : Nat} {B : Nat → By} {Rd : Nat → Loc → Prop} {cn : Nat → Nat} {T : Trace} {gs : Array Goroutine} {w : World} {q : Nat → Nat × Nat} {md : Md}

theorem MdOk.wg {n : Nat} (H : MdOk X h n B cn w md) : ∃ st sm, WgAt X.ty X.Wg w st sm := by
  cases md with
  | norm wt => exact ⟨_, _, H.2.1⟩
  | last L s => exact ⟨_, _, H.2.2.2.2⟩
  | sema => exact ⟨_, _, H.2⟩
  | fin => exact ⟨_, _, H.2⟩

/-- Into the frame of waiting. -/
theorem Crew.toD (C : Crew P X V h dh B Rd cn T gs w q) (o : X.on) (hv : V X.Wg) (hns : ∀ i c z home, i ≠ h → B i ≠ .seat c z home) (hch : cn h = 0) : CrewD P X V h dh B cn T gs w q (.norm 0) := by
  refine ⟨C.hlt, o, fun i g hi hg => ?_, hns, fun j hj => ⟨(C.out j hj).1, (C.out j hj).2.2⟩, C.hdeaf, fun a ha => ⟨(C.st a ha).1, (C.st a ha).2.1 o, (C.st a ha).2.2⟩, C.sh o, C.shlow, C.exlow, C.few o, hv, ⟨by omega, by simpa using C.grp o, fun e => (by cases e), C.cnt, fun i hi => ?_⟩, ?_⟩
  · have := C.idle i g hi hg
    cases e : B i with
    | gone => rw [e] at this; exact this
    | seat c z home => exact absurd e (hns i c z home hi)
    | dn s => rw [e] at this; exact this
  · have hih : i ≠ h := fun e => hi (e ▸ hch)
    refine ⟨hih, ?_⟩
    cases e : B i with
    | gone => exact absurd (C.cnz o i hih e) hi
    | seat c z home => exact absurd e (hns i c z home hih)
    | dn s => exact ⟨s, rfl⟩
  · have p := (C.past.lose (fun _ => False) (fun _ x => x.elim)).fewer (Mem' := fun _ => False) (fun _ x => x.elim)
    refine p.rd_sub (fun _ _ x => x.elim) fun i a g _ _ hr _ => ?_
    by_cases e : g = h
    · rw [if_pos e] at hr; exact hr.elim
    · rw [if_neg e] at hr
      obtain ⟨c, z, home, e'⟩ := C.rds g _ e hr
      exact absurd e' (hns g c z home e)

theorem CrewD.awake (C : CrewD P X V h dh B cn T gs w q md) {a : Goroutine} (ha : gs[h]? = some a) (hs : a.status = .running ∨ a.status = .blocked) : ∀ g ∈ gs, awake g := by
  intro g hg
  obtain ⟨i, hi, rfl⟩ := Array.mem_iff_getElem.1 hg
  by_cases e : i = h
  · subst e
    have : gs[i] = a := by simpa [Array.getElem?_eq_getElem hi] using ha
    rw [this]; exact awake_of (hs.elim .inl fun x => .inr (.inl x))
  · rcases (C.idle i _ e (Array.getElem?_eq_getElem hi)).status with x | x | ⟨c, z, home, g₂, x, _⟩
    · exact awake_of (.inl x)
    · exact awake_of (.inr (.inr x))
    · exact absurd x (C.noseat i c z home e)
theorem CrewD.fixed (C : CrewD P X V h dh B cn T gs w q md) {x : Nat} {y : Goroutine} (hx : x ≠ h) (hy : gs[x]? = some y) (w' : World) : y.again w' = y := by
  rcases (C.idle x y hx hy).status with hs | hs | ⟨c, z, home, g₂, e, _⟩
  · exact again_running w' (.inl hs)
  · exact again_running w' (.inr hs)
  · exact absurd e (C.noseat x c z home hx)
theorem CrewD.at (C : CrewD P X V h dh B cn T gs w q md) (d : Nat) : CrewD P X V h dh B cn T gs (w.at d) q md :=
  ⟨C.hlt, C.on, fun i g hi hg => (C.idle i g hi hg).env (Env.at X w d) rfl fun _ x => x, C.noseat, C.out, C.hdeaf, C.st, C.sh, C.shlow, C.exlow, C.few, C.vol, by cases md <;> exact C.md, C.past⟩

/-- The frame behind a bystander's step that is laid anew by hand. -/
theorem CrewD.turn (C : CrewD P X V h dh B cn T gs w q md) {i : Nat} (hih : i ≠ h) (hilt : i < gs.size) {gs' : Array Goroutine} {w' : World} {qi : Nat × Nat} {g' : Goroutine} {ops : Array MemOp} {B' : Nat → By} {cn' : Nat → Nat} {md' : Md}
    (hsz : gs'.size = gs.size) (hoth : ∀ x, x ≠ i → x ≠ h → gs'[x]? = gs[x]?) (hself : gs'[i]? = some g') (Ev : Env X w w') (hops : ∀ op ∈ ops, op.g = i) (hB : ∀ x, x ≠ i → B' x = B x) (hBi : ∀ c z home, B' i ≠ .seat c z home)
    (hidle : Idle P X (fun _ _ => False) (T ++ ops) w' i qi g' (B' i)) (hmd : MdOk X h gs.size B' cn' w' md') (hfew : sumTo gs.size cn' ≤ sumTo gs.size cn)
    (hpast : Tr X.Sh (fun _ _ => False) (fun _ => False) (fun _ => False) (fun _ => False) w'.heap.size (Knows (T ++ ops) h) (T ++ ops)) :
    CrewD P X V h dh B' cn' (T ++ ops) gs' w' (upd q i qi) md' := by
  refine ⟨by rw [hsz]; exact C.hlt, C.on, fun x y hx hy => ?_, fun x c z home hx => ?_, fun j hj => ?_, (Deaf_other T hih ops hops).trans C.hdeaf, fun a ha => ?_, C.sh, fun a ha => Nat.lt_of_lt_of_le (C.shlow a ha) Ev.size, fun b hb => Nat.lt_of_lt_of_le (C.exlow b hb) Ev.size, by rw [hsz]; exact Nat.lt_of_le_of_lt hfew C.few, C.vol, by rw [hsz]; exact hmd, hpast⟩
  · by_cases e : x = i
    · subst e
      rw [hself] at hy
      obtain rfl := Option.some.inj hy
      rw [upd_same]; exact hidle
    · rw [hoth x e hx] at hy
      rw [upd_ne q qi e, hB x e]
      exact (C.idle x y hx hy).env Ev (Deaf_other T (fun z => e z.symm) ops hops) fun _ z => z
  · by_cases e : x = i
    · subst e; exact hBi c z home
    · rw [hB x e]; exact C.noseat x c z home hx
  · rw [hsz] at hj
    obtain ⟨h1, h2⟩ := C.out j hj
    have hji : j ≠ i := by omega
    exact ⟨(Deaf_other T (fun z => hji z.symm) ops hops).trans h1, by rw [hB j hji]; exact h2⟩
  · obtain ⟨h1, h2, v, h3⟩ := C.st a ha
    exact ⟨Nat.lt_of_lt_of_le h1 Ev.size, h2, v, by rw [Ev.st a ha]; exact h3⟩

theorem wgAt_setSm {ty : TypeId} {Wg : Nat} {w : World} {st sm v : Int} (hw : WgAt ty Wg w st sm) : WgAt ty Wg (w.setCell (smA Wg) (.int .u32 v)) st v := by
  unfold WgAt at hw ⊢
  simp [World.setCell, smA, Array.getElem?_modify, hw, wgBlock]

/-- What a bystander's step may do to the mode. -/
def MdLe (n n' : Nat) : Md → Md → Prop
  | .norm wt, .norm wt' => wt' = wt ∧ n' ≤ n
  | .norm wt, .last _ _ => wt = 1
  | .last _ _, .last _ _ => True
  | .last _ _, .sema => True
  | .sema, .sema => True
  | .fin, .fin => True
  | _, _ => False

/-- A BYSTANDER's STEP. -/
theorem CrewD.by_step (C : CrewD P X V h dh B cn T gs w q md) {i : Nat} {g : Goroutine} {sl : Option (Nat × Nat)} (hi : gs[i]? = some g) (hih : i ≠ h) (hrun : g.status = .running) {a : Goroutine} (ha : gs[h]? = some a) :
    ∃ (gs' : Array Goroutine) (ops : Array MemOp) (w' : World) (q' : Nat → Nat × Nat) (B' : Nat → By) (cn' : Nat → Nat) (md' : Md) (g' : Goroutine),
      runT P (crowd gs w sl) i = (.next (crowd gs' w' sl), ops) ∧ gs'.size = gs.size ∧ gs'[h]? = some (woken P g g' w' a) ∧ Ext V w w' ∧ Env X w w' ∧ CrewD P X V h dh B' cn' (T ++ ops) gs' w' q' md' ∧ Less gs.size q' q ∧ (cn' = cn ∨ sumTo gs.size (fun i => (q' i).1) < sumTo gs.size (fun i => (q i).1)) ∧
      MdLe (sumTo gs.size cn) (sumTo gs.size cn') md md' ∧ (md' = .sema → md ≠ .sema → mayWake P g = true ∧ g'.status ≠ .blocked ∧ g'.status ≠ .waiting) := by
  have hlt : i < gs.size := (Array.getElem?_eq_some_iff.1 hi).1
  have harr : ∀ (g' x' : Goroutine) (w' : World), ∀ x, x ≠ i → x ≠ h → ((gs.map (woken P g x' w')).setIfInBounds i g')[x]? = gs[x]? := by
    intro g' x' w' x hx hxh
    rw [Array.getElem?_setIfInBounds_ne (fun e => hx e.symm), Array.getElem?_map]
    cases e : gs[x]? with
    | none => rfl
    | some y => simp [woken_of_again (C.fixed hxh e w')]
  have hself : ∀ (g' x' : Goroutine) (w' : World), ((gs.map (woken P g x' w')).setIfInBounds i g')[i]? = some g' := fun g' x' w' => Array.getElem?_setIfInBounds_self_of_lt (by simpa using hlt)
  have hhold : ∀ (g' x' : Goroutine) (w' : World), ((gs.map (woken P g x' w')).setIfInBounds i g')[h]? = some (woken P g x' w' a) := fun g' x' w' => by
    rw [Array.getElem?_setIfInBounds_ne hih, Array.getElem?_map, ha]; rfl
  have hid := C.idle i g hih hi
  have hmdle : MdLe (sumTo gs.size cn) (sumTo gs.size cn) md md := by cases md <;> simp [MdLe]
  have hops : ∀ es : Array Event, ∀ op ∈ MemOp.ofEvents i g.frame.fn g.frame.place es, op.g = i := fun es op hop => by obtain ⟨e, _, rfl⟩ := Go.Conc.mem_ofEvents hop; rfl
  cases eB : B i with
  | seat c z home => exact absurd eB (C.noseat i c z home hih)
  | gone =>
    rw [eB] at hid
    obtain ⟨hpos, hq1, hQ⟩ := hid
    have hi0 : (i == 0) = false := by simp; omega
    cases hqi : (q i).2 with
    | zero => rw [hqi] at hQ; rw [hQ.1] at hrun; cases hrun
    | succ k =>
      rw [hqi] at hQ
      rcases hQ with ⟨hf, _⟩ | ⟨_, g', es, hm, hstp, hq'⟩
      · rw [hf] at hrun; cases hrun
      have hnt : ∀ op ∈ MemOp.ofEvents i g.frame.fn g.frame.place es, op.act.touch? = none := fun op hop => by obtain ⟨e, he, rfl⟩ := Go.Conc.mem_ofEvents hop; exact touch_mute (hm e he)
      refine ⟨_, _, w, upd q i (0, k), B, cn, md, g', runT_crowd_go (sl := sl) hi (by rw [hi0]; exact hstp w), by simp, hhold _ _ _, Ext.refl V w, Env.refl X w, ?_, less_upd hlt (.inr ⟨hq1.symm, by rw [hqi]; exact Nat.lt_succ_self k⟩), .inl rfl, hmdle, fun e1 e2 => absurd e1 e2⟩
      refine C.turn hih hlt (by simp) (harr _ _ w) (hself _ _ _) (Env.refl X w) (hops es) (fun _ _ => rfl) (fun c z home e => by rw [eB] at e; cases e)
        (by rw [eB]; exact ⟨hpos, rfl, by rw [Deaf_own]; exact hq'⟩) C.md (Nat.le_refl _) ?_
      refine C.past.appBy (fun _ => Knows.app _) (hops es) (fun k op hk b hb => ?_) (fun op hop a' e => ?_) (fun hM => hM.elim) (fun op hop => ?_)
      · rw [hnt op (Array.mem_of_getElem? hk)] at hb; cases hb
      · obtain ⟨ev, he, rfl⟩ := Go.Conc.mem_ofEvents hop
        have := hm ev he
        obtain ⟨loc, wr, sy⟩ := ev
        cases loc with
        | mark m => cases m <;> simp [Event.mute, MemAct.ofEvent] at this e
        | _ => simp [Event.mute] at this
      · obtain ⟨ev, he, rfl⟩ := Go.Conc.mem_ofEvents hop
        exact low_mute (hm ev he) _
  | dn s =>
    rw [eB] at hid
    obtain ⟨hpos, o, hq1, Cb, hCb, hD⟩ := hid
    have hi0 : (i == 0) = false := by simp; omega
    obtain ⟨st0, sm0, hwg0⟩ := C.md.wg
    have hWlt : X.Wg < w.heap.size := (Array.getElem?_eq_some_iff.1 hwg0).1
    -- a step that leaves the world and lists no touch
    have silent : ∀ (s' m' : Nat) (g' : Goroutine) (es : Array Event), stepG P false g w = .go g' w es → (es = #[] ∨ es = #[Go.ConcR.mk .disable] ∨ es = #[Go.ConcR.mk (.releaseMerge (stA X.Wg))]) → (4 ≤ s ∧ 4 ≤ s' ∨ s' = s) → (s' < s ∨ (s' = s ∧ m' < (q i).2)) → DnAt P X.ty X.Wg Cb s' m' (deafBehind (Deaf T i) es) g' w →
        ∃ (gs' : Array Goroutine) (ops : Array MemOp) (w' : World) (q' : Nat → Nat × Nat) (B' : Nat → By) (cn' : Nat → Nat) (md' : Md) (g' : Goroutine),
          runT P (crowd gs w sl) i = (.next (crowd gs' w' sl), ops) ∧ gs'.size = gs.size ∧ gs'[h]? = some (woken P g g' w' a) ∧ Ext V w w' ∧ Env X w w' ∧ CrewD P X V h dh B' cn' (T ++ ops) gs' w' q' md' ∧ Less gs.size q' q ∧ (cn' = cn ∨ sumTo gs.size (fun i => (q' i).1) < sumTo gs.size (fun i => (q i).1)) ∧
          MdLe (sumTo gs.size cn) (sumTo gs.size cn') md md' ∧ (md' = .sema → md ≠ .sema → mayWake P g = true ∧ g'.status ≠ .blocked ∧ g'.status ≠ .waiting) := by
      intro s' m' g' es hgo hes hs' hm hD'
      have hone : ∀ op ∈ MemOp.ofEvents i g.frame.fn g.frame.place es, op.act = .mark .disable ∨ op.act = .mark (.releaseMerge (stA X.Wg)) := by
        intro op hop
        obtain ⟨e, he, rfl⟩ := Go.Conc.mem_ofEvents hop
        rcases hes with rfl | rfl | rfl
        · simp at he
        · simp only [List.mem_toArray, List.mem_cons, List.not_mem_nil, or_false] at he; subst he; exact .inl rfl
        · simp only [List.mem_toArray, List.mem_cons, List.not_mem_nil, or_false] at he; subst he; exact .inr rfl
      refine ⟨_, _, w, upd q i (s', m'), upd B i (.dn s'), cn, md, g', runT_crowd_go (sl := sl) hi (by rw [hi0]; exact hgo), by simp, hhold _ _ _, Ext.refl V w, Env.refl X w, ?_, less_upd hlt (by rw [hq1]; exact hm), .inl rfl, hmdle, fun e1 e2 => absurd e1 e2⟩
      refine C.turn hih hlt (by simp) (harr _ _ w) (hself _ _ _) (Env.refl X w) (hops es) (fun x hx => upd_ne B _ hx) (fun c z home e => by rw [upd_same] at e; cases e)
        (by rw [upd_same]; exact ⟨hpos, o, rfl, Cb, hCb, by rw [Deaf_own]; exact hD'⟩) ?_ (Nat.le_refl _) ?_
      · have hmd := C.md
        cases md with
        | norm wt =>
          obtain ⟨h1, h2, h3, h4, h5⟩ := hmd
          refine ⟨h1, h2, h3, fun x s'' hx e => ?_, fun x hx => ?_⟩
          · by_cases ex : x = i
            · subst ex
              rw [upd_same] at e
              obtain rfl := By.dn.inj e
              obtain ⟨c1, c2⟩ := h4 x s hx eB
              exact ⟨c1, by omega⟩
            · rw [upd_ne B _ ex] at e; exact h4 x s'' hx e
          · obtain ⟨c1, s'', c2⟩ := h5 x hx
            refine ⟨c1, ?_⟩
            by_cases ex : x = i
            · subst ex; exact ⟨s', upd_same _ _ _⟩
            · exact ⟨s'', by rw [upd_ne B _ ex]; exact c2⟩
        | last L sL =>
          obtain ⟨h1, h2, h3, h4, h5⟩ := hmd
          obtain rfl : i = L := Classical.byContradiction fun e => by have := h4 i hih e; rw [eB] at this; cases this
          rw [eB] at h2
          obtain rfl := By.dn.inj h2
          obtain rfl : s' = s := by omega
          rw [upd_hit _ eB]
          exact ⟨h1, eB, h3, h4, h5⟩
        | sema => have := hmd.1 i hih; rw [eB] at this; cases this
        | fin => have := hmd.1 i hih; rw [eB] at this; cases this
      · refine C.past.appBy (fun _ => Knows.app _) (hops es) (fun k op hk b hb => ?_) (fun op hop a' e => ?_) (fun hM => hM.elim) (fun op hop => ?_)
        · rcases hone op (Array.mem_of_getElem? hk) with e | e <;> rw [e] at hb <;> cases hb
        · rcases hone op hop with e' | e' <;> rw [e'] at e <;> cases e
        · rcases hone op hop with e' | e' <;> rw [e']
          · trivial
          · exact hWlt
    -- an atomic touch of the group's block, made deaf
    have deaf : ∀ (w' : World) (g' : Goroutine) (es : Array Event) (Bi : By) (qi : Nat × Nat) (cn' : Nat → Nat) (md' : Md), Deaf T i = 1 → stepG P false g w = .go g' w' es → Atm X.Wg es → (w' = w ∨ ∃ a v, w' = w.setCell a v ∧ a.block = X.Wg) → (∃ st sm, WgAt X.ty X.Wg w' st sm) →
        (∀ c z home, Bi ≠ .seat c z home) → (∀ T', Deaf T' i = 1 → Env X w w' → Idle P X (fun _ _ => False) T' w' i qi g' Bi) → MdOk X h gs.size (upd B i Bi) cn' w' md' → sumTo gs.size cn' ≤ sumTo gs.size cn → qi.1 < s → MdLe (sumTo gs.size cn) (sumTo gs.size cn') md md' →
        (md' = .sema → md ≠ .sema → mayWake P g = true ∧ g'.status ≠ .blocked ∧ g'.status ≠ .waiting) →
        ∃ (gs' : Array Goroutine) (ops : Array MemOp) (w' : World) (q' : Nat → Nat × Nat) (B' : Nat → By) (cn' : Nat → Nat) (md' : Md) (g' : Goroutine),
          runT P (crowd gs w sl) i = (.next (crowd gs' w' sl), ops) ∧ gs'.size = gs.size ∧ gs'[h]? = some (woken P g g' w' a) ∧ Ext V w w' ∧ Env X w w' ∧ CrewD P X V h dh B' cn' (T ++ ops) gs' w' q' md' ∧ Less gs.size q' q ∧ (cn' = cn ∨ sumTo gs.size (fun i => (q' i).1) < sumTo gs.size (fun i => (q i).1)) ∧
          MdLe (sumTo gs.size cn) (sumTo gs.size cn') md md' ∧ (md' = .sema → md ≠ .sema → mayWake P g = true ∧ g'.status ≠ .blocked ∧ g'.status ≠ .waiting) := by
      intro w' g' es Bi qi cn' md' hd hgo hes hw' hlive hBi hidle hmd' hsum hqi hle hwake
      obtain ⟨t1, t2, t3, t4, t5⟩ := deaf_touches (t := T) hd hes g.frame.fn g.frame.place
      have hE : Ext V w w' ∧ Env X w w' ∧ w'.heap.size = w.heap.size := by
        rcases hw' with rfl | ⟨x, v, rfl, hx⟩
        · exact ⟨Ext.refl V _, Env.refl X _, rfl⟩
        · obtain ⟨st1, sm1, hl⟩ := hlive
          exact ⟨Ext.setCell w x v (hx ▸ C.vol), env_group X w x v hx (fun a' ha' _ => (C.st a' ha').2.1) o hwg0 ⟨st1, sm1, hl⟩, size_setCell' w x v⟩
      refine ⟨_, _, w', upd q i qi, upd B i Bi, cn', md', g', runT_crowd_go (sl := sl) hi (by rw [hi0]; exact hgo), by simp, hhold _ _ _, hE.1, hE.2.1, ?_, less_upd hlt (.inl (by rw [hq1]; exact hqi)), .inr (by have := sumTo_upd q qi Prod.fst hlt; omega), hle, hwake⟩
      refine C.turn hih hlt (by simp) (harr _ _ w') (hself _ _ _) hE.2.1 t1 (fun x hx => upd_ne B _ hx) (fun c z home e => by rw [upd_same] at e; exact hBi c z home e) (by rw [upd_same]; exact hidle _ t5 hE.2.1) hmd' hsum ?_
      rw [hE.2.2]
      refine C.past.appBy (fun _ => Knows.app _) t1 (fun k op hk b hb => ?_) t3 (fun hM => hM.elim) (t4 _ hWlt)
      obtain ⟨⟨x, hx, hxW⟩, hk', hnh⟩ := t2 k op hk b hb
      exact .inr ⟨by rw [hx]; exact C.sh x hxW, hk', .inl hnh⟩
    have hblocked : ∀ {n d : Nat} {g' : Goroutine}, QuitsD P n d g' → g'.status ≠ .blocked ∧ g'.status ≠ .waiting := fun hQ => by rcases hQ.status with e | e <;> rw [e] <;> simp
    have last : ∀ s', s' ≤ 3 → B i = .dn s' → md = .last i s' ∧ (∀ x, x ≠ h → x ≠ i → B x = .gone) ∧ WgAt X.ty X.Wg w (if s' = 1 then 0 else 1) 0 := by
      intro s' hs' e
      have hmd := C.md
      cases md with
      | norm wt => have := (hmd.2.2.2.1 i s' hih e).2; omega
      | last L sL =>
        obtain ⟨h1, h2, h3, h4, h5⟩ := hmd
        obtain rfl : i = L := Classical.byContradiction fun e' => by have := h4 i hih e'; rw [e] at this; cases this
        rw [e] at h2
        obtain rfl := By.dn.inj h2
        exact ⟨rfl, h4, h5⟩
      | sema => have := hmd.1 i hih; rw [e] at this; cases this
      | fin => have := hmd.1 i hih; rw [e] at this; cases this
    match s, hD, hq1, eB with
    | 6, hD, hq1, eB =>
      obtain ⟨hd, hG⟩ := hD
      rcases goes_cases hG with ⟨_, g', hgo, m, hG'⟩ | ⟨k, g', hk, hgo, hG'⟩
      · exact silent 5 m g' _ hgo (.inr (.inr rfl)) (.inl ⟨by omega, by omega⟩) (.inl (by omega)) ⟨by rw [hd]; rfl, hG'⟩
      · exact silent 6 k g' _ hgo (.inl rfl) (.inr rfl) (.inr ⟨rfl, by omega⟩) ⟨by rw [hd]; rfl, hG'⟩
    | 5, hD, hq1, eB =>
      obtain ⟨hd, hG⟩ := hD
      rcases goes_cases hG with ⟨_, g', hgo, m, hG'⟩ | ⟨k, g', hk, hgo, hG'⟩
      · exact silent 4 m g' _ hgo (.inr (.inl rfl)) (.inl ⟨by omega, by omega⟩) (.inl (by omega)) ⟨by rw [hd]; rfl, hG'⟩
      · exact silent 5 k g' _ hgo (.inl rfl) (.inr rfl) (.inr ⟨rfl, by omega⟩) ⟨by rw [hd]; rfl, hG'⟩
    | 4, hD, hq1, eB =>
      obtain ⟨hd, hG⟩ := hD
      rcases goes_cases hG with ⟨_, hst⟩ | ⟨k, g', hk, hgo, hG'⟩
      · have hmd := C.md
        cases md with
        | last L sL =>
          obtain ⟨h1, h2, h3, h4, h5⟩ := hmd
          obtain rfl : i = L := Classical.byContradiction fun e => by have := h4 i hih e; rw [eB] at this; cases this
          rw [eB] at h2
          obtain rfl := By.dn.inj h2
          omega
        | sema => have := hmd.1 i hih; rw [eB] at this; cases this
        | fin => have := hmd.1 i hih; rw [eB] at this; cases this
        | norm wt =>
          obtain ⟨hwt, hwg, h3, h4, h5⟩ := hmd
          have hcni := (h4 i 4 hih eB).1
          have hsum := le_sumTo (f := cn) hlt
          obtain ⟨v, hv⟩ : ∃ v, sumTo gs.size cn = v + 1 := ⟨sumTo gs.size cn - 1, by omega⟩
          have hfew := C.few
          have hcast : (((sumTo gs.size cn : Nat) : Int) * KK + wt) = ((v : Int) + 1) * KK + wt := by rw [hv]; simp
          have hwg' : WgAt X.ty X.Wg w (((v : Int) + 1) * KK + wt) 0 := by rw [← hcast]; exact hwg
          obtain ⟨g', es, hgo, hes, hL, hQ⟩ := hst v wt hwt (by omega) hwg'
          have hnew : WgAt X.ty X.Wg (w.setCell (stA X.Wg) (.int .u64 ((v : Int) * KK + wt))) ((v : Int) * KK + wt) 0 := wgAt_setSt hwg'
          have hsum' := sumTo_upd cn 0 id hlt
          simp only [id] at hsum'
          have hv' : sumTo gs.size (upd cn i 0) = v := by
            have e1 : sumTo gs.size (fun a => upd cn i 0 a) = sumTo gs.size (upd cn i 0) := rfl
            have e2 : sumTo gs.size (fun a => cn a) = sumTo gs.size cn := rfl
            omega
          by_cases hlast : v = 0 ∧ wt = 1
          · obtain ⟨m, hG'⟩ := hL hlast
            obtain ⟨rfl, rfl⟩ := hlast
            refine deaf _ g' es (.dn 3) (3, m) (upd cn i 0) (.last i 3) hd hgo hes (.inr ⟨_, _, rfl, rfl⟩) ⟨_, _, hnew⟩ (fun _ _ _ e => by cases e) (fun T' hT E => ⟨hpos, o, rfl, Cb, E.box hCb, hT, hG'⟩) ?_ (by omega) (by omega) rfl (fun e => by cases e)
            refine ⟨hih, upd_same _ _ _, by omega, fun x hx hxi => ?_, by simpa using hnew⟩
            rw [upd_ne B _ hxi]
            cases e : B x with
            | gone => rfl
            | seat c z home => exact absurd e (C.noseat x c z home hx)
            | dn s' =>
              have hc1 := (h4 x s' hx e).1
              have hxl : x < gs.size := by
                refine Classical.byContradiction fun hn => ?_
                have := (C.out x (by omega)).2
                rw [e] at this; cases this
              have := le_sumTo (f := upd cn i 0) hxl
              rw [upd_ne cn _ hxi] at this
              omega
          · obtain ⟨qq, hQ⟩ := hQ hlast
            refine deaf _ g' es .gone (0, qq) (upd cn i 0) (.norm wt) hd hgo hes (.inr ⟨_, _, rfl, rfl⟩) ⟨_, _, hnew⟩ (fun _ _ _ e => by cases e) (fun T' hT _ => ⟨hpos, rfl, by rw [hT]; exact hQ⟩) ?_ (by omega) (by omega) ⟨rfl, by omega⟩ (fun e => by cases e)
            refine ⟨hwt, by rw [hv']; exact hnew, fun e => by rw [hv']; omega, fun x s' hx e => ?_, fun x hx => ?_⟩
            · by_cases ex : x = i
              · subst ex; rw [upd_same] at e; cases e
              · rw [upd_ne B _ ex] at e
                rw [upd_ne cn _ ex]
                exact h4 x s' hx e
            · by_cases ex : x = i
              · subst ex; rw [upd_same] at hx; exact absurd rfl hx
              · rw [upd_ne cn _ ex] at hx
                rw [upd_ne B _ ex]
                exact h5 x hx
      · exact silent 4 k g' _ hgo (.inl rfl) (.inr rfl) (.inr ⟨rfl, by omega⟩) ⟨by rw [hd]; rfl, hG'⟩
    | 3, hD, hq1, eB =>
      obtain ⟨hd, hG⟩ := hD
      obtain ⟨rfl, hoth, hwg⟩ := last 3 (by omega) eB
      rcases goes_cases hG with ⟨_, hst⟩ | ⟨k, g', hk, hgo, hG'⟩
      · obtain ⟨g', es, hgo, hes, m, hG'⟩ := hst hwg
        refine deaf w g' es (.dn 2) (2, m) cn (.last i 2) hd hgo hes (.inl rfl) ⟨_, _, hwg⟩ (fun _ _ _ e => by cases e) (fun T' hT E => ⟨hpos, o, rfl, Cb, E.box hCb, hT, hG'⟩) ?_ (Nat.le_refl _) (by omega) trivial (fun e => by cases e)
        exact ⟨hih, upd_same _ _ _, by omega, fun x hx hxi => by rw [upd_ne B _ hxi]; exact hoth x hx hxi, hwg⟩
      · exact silent 3 k g' _ hgo (.inl rfl) (.inr rfl) (.inr ⟨rfl, by omega⟩) ⟨by rw [hd]; rfl, hG'⟩
    | 2, hD, hq1, eB =>
      obtain ⟨hd, hG⟩ := hD
      obtain ⟨rfl, hoth, hwg⟩ := last 2 (by omega) eB
      rcases goes_cases hG with ⟨_, hst⟩ | ⟨k, g', hk, hgo, hG'⟩
      · obtain ⟨g', es, hgo, hes, m, hG'⟩ := hst hwg
        have hnew : WgAt X.ty X.Wg (w.setCell (stA X.Wg) (.int .u64 0)) 0 0 := wgAt_setSt hwg
        refine deaf _ g' es (.dn 1) (1, m) cn (.last i 1) hd hgo hes (.inr ⟨_, _, rfl, rfl⟩) ⟨_, _, hnew⟩ (fun _ _ _ e => by cases e) (fun T' hT E => ⟨hpos, o, rfl, Cb, E.box hCb, hT, hG'⟩) ?_ (Nat.le_refl _) (by omega) trivial (fun e => by cases e)
        exact ⟨hih, upd_same _ _ _, by omega, fun x hx hxi => by rw [upd_ne B _ hxi]; exact hoth x hx hxi, hnew⟩
      · exact silent 2 k g' _ hgo (.inl rfl) (.inr rfl) (.inr ⟨rfl, by omega⟩) ⟨by rw [hd]; rfl, hG'⟩
    | 1, hD, hq1, eB =>
      obtain ⟨hd, hG⟩ := hD
      obtain ⟨rfl, hoth, hwg⟩ := last 1 (by omega) eB
      rcases goes_cases hG with ⟨_, hmw, hst⟩ | ⟨k, g', hk, hgo, hG'⟩
      · obtain ⟨g', es, hgo, hes, m, hQ⟩ := hst hwg
        have hnew : WgAt X.ty X.Wg (w.setCell (smA X.Wg) (.int .u32 1)) 0 1 := wgAt_setSm hwg
        refine deaf _ g' es .gone (0, m) cn .sema hd hgo hes (.inr ⟨_, _, rfl, rfl⟩) ⟨_, _, hnew⟩ (fun _ _ _ e => by cases e) (fun T' hT _ => ⟨hpos, rfl, by rw [hT]; exact hQ⟩) ?_ (Nat.le_refl _) (by omega) trivial (fun _ _ => ⟨hmw, hblocked hQ⟩)
        refine ⟨fun x hx => ?_, hnew⟩
        by_cases ex : x = i
        · subst ex; exact upd_same _ _ _
        · rw [upd_ne B _ ex]; exact hoth x hx ex
      · exact silent 1 k g' _ hgo (.inl rfl) (.inr rfl) (.inr ⟨rfl, by omega⟩) ⟨by rw [hd]; rfl, hG'⟩
    | 0, hD, _, _ => exact hD.elim
    | s + 7, hD, _, _ => exact hD.elim
end
end Cw
end
end Go.Proofs.YtggfcdhkgldbfaaDoor
