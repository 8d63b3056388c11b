/-
  PARTS of a claim, merged by segs.py: NwS.
-/
import Derived.Test.YtggfcdhkgldbfaaN02
namespace Go.Proofs.Ytggfcdhkgldbfaa
set_option linter.unusedSimpArgs false
set_option linter.unusedVariables false

/-! ### NwS -/
section
namespace Cw
open Go Go.Conc
open Go.ConcN (sumTo upd upd_same upd_ne sumTo_upd sumTo_congr WgLive le_sumTo)
open Go.ConcR (KK wgBlock WgAt stA smA rd wr mk)

section
variable {P : Program} {X : Cx} {V : Nat → Prop} {h dh : Nat} {B : Nat → By} {Rd : Nat → Loc → Prop} {cn : Nat → Nat} {T : Trace} {gs : Array Goroutine} {w : World} {q : Nat → Nat × Nat} {md : Nat → Md}

theorem CrewM.chan_kept (C : CrewM P X V h dh B Rd cn T gs w q md) {i c : Nat} {z : Value} {home : Hm} (hi : i ≠ h) (e : B i = .seat c z home) {w' : World} (E : Ext V w w') : w'.heap[c]? = w.heap[c]? := by
  obtain ⟨hc, k, hk⟩ := C.seats i c z home hi e
  exact E.same c (Array.getElem?_eq_some_iff.1 hk).1 (C.volC c hc)

/-- No bystander is unseated by what another does. -/
theorem CrewM.fixed (C : CrewM P X V h dh B Rd cn T gs w q md) {x : Nat} {y : Goroutine} (hx : x ≠ h) (hy : gs[x]? = some y) {w' : World} (E : Ext V w w') : y.again w' = y := by
  rcases (C.idle x y hx hy).status with hs | hs | ⟨c, z, home, g₂, e, rfl⟩
  · exact again_running w' (.inl hs)
  · exact again_running w' (.inr hs)
  · obtain ⟨_, k, hk⟩ := C.seats x c z home hx e
    exact again_recv_open (by rw [C.chan_kept hx e E]; exact hk)
theorem CrewM.noSend (C : CrewM P X V h dh B Rd cn T gs w q md) {x : Nat} {y : Goroutine} (hx : x ≠ h) (hy : gs[x]? = some y) (c : Nat) : offersAt y c true = [] := by
  rcases (C.idle x y hx hy).status with hs | hs | ⟨c', z, home, g₂, e, rfl⟩
  · exact offersAt_of_not_blocked (by rw [hs]; simp) _ _
  · exact offersAt_of_not_blocked (by rw [hs]; simp) _ _
  · exact offersAt_parked_recv' _ _ _ _ _
theorem CrewM.noRecv (C : CrewM P X V h dh B Rd cn T gs w q md) {x : Nat} {y : Goroutine} (hx : x ≠ h) (hy : gs[x]? = some y) {c : Nat} (hc : ∀ z home, B x ≠ .seat c z home) : offersAt y c false = [] := by
  rcases (C.idle x y hx hy).status with hs | hs | ⟨c', z, home, g₂, e, rfl⟩
  · exact offersAt_of_not_blocked (by rw [hs]; simp) _ _
  · exact offersAt_of_not_blocked (by rw [hs]; simp) _ _
  · rw [offersAt_parked_recv, if_neg]
    rintro rfl
    exact hc z home e
theorem CrewM.awake (C : CrewM P X V h dh B Rd cn T gs w q md) {a : Goroutine} (ha : gs[h]? = some a) (hs : a.status = .running ∨ a.status = .blocked) : ∀ g ∈ gs, awake g := by
  intro g hg
  obtain ⟨i, hi, rfl⟩ := Array.mem_iff_getElem.1 hg
  by_cases e : i = h
  · subst e
    have : gs[i] = a := by simpa [Array.getElem?_eq_getElem hi] using ha
    rw [this]; exact awake_of (hs.elim .inl fun x => .inr (.inl x))
  · rcases (C.idle i _ e (Array.getElem?_eq_getElem hi)).status with x | x | ⟨c, z, home, g₂, _, x⟩
    · exact awake_of (.inl x)
    · exact awake_of (.inr (.inr x))
    · rw [x]; exact awake_of (.inr (.inl rfl))

/-- How a bystander's step turns what it is about. -/
def ByLe (B B' : Nat → By) : Prop := ∀ i, B' i = B i ∨ ((∃ s, B i = .dn s) ∧ ((∃ s, B' i = .dn s) ∨ B' i = .gone))
theorem ByLe.refl (B : Nat → By) : ByLe B B := fun _ => .inl rfl
theorem ByLe.trans {A B D : Nat → By} (h : ByLe A B) (k : ByLe B D) : ByLe A D := by
  intro i
  rcases k i with e | ⟨⟨s, hs⟩, x⟩
  · rw [e]; exact h i
  · rcases h i with e' | ⟨x', _⟩
    · exact .inr ⟨⟨s, by rw [← e']; exact hs⟩, x⟩
    · exact .inr ⟨x', x⟩
theorem ByLe.seat {B B' : Nat → By} (hl : ByLe B B') {i c : Nat} {z : Value} {home : Hm} : B' i = .seat c z home ↔ B i = .seat c z home := by
  rcases hl i with e | ⟨⟨s, hs⟩, ⟨s', hs'⟩ | hs'⟩
  · rw [e]
  · rw [hs, hs']; simp
  · rw [hs, hs']; simp

/-- How the frame's parts turn while goroutine h holds. -/
structure Later (h : Nat) (B : Nat → By) (cn : Nat → Nat) (B' : Nat → By) (cn' : Nat → Nat) : Prop where
  le : ByLe B B'
  cn : ∀ x, (x = h ∨ ∀ s, B x ≠ .dn s) → cn' x = cn x
theorem Later.refl (h : Nat) (B : Nat → By) (cn : Nat → Nat) : Later h B cn B cn := ⟨ByLe.refl B, fun _ _ => rfl⟩
theorem Later.trans {h : Nat} {B B' B'' : Nat → By} {cn cn' cn'' : Nat → Nat} (k : Later h B cn B' cn') (l : Later h B' cn' B'' cn'') : Later h B cn B'' cn'' := by
  refine ⟨k.le.trans l.le, fun x hx => (l.cn x (hx.imp id fun y s e => ?_)).trans (k.cn x hx)⟩
  rcases k.le x with e' | ⟨⟨s', hs'⟩, _⟩
  · rw [e'] at e; exact y s e
  · exact y s' hs'

theorem CrewM.turn (C : CrewM P X V h dh B Rd cn T gs w q md) {i : Nat} (hih : i ≠ h) (hilt : i < gs.size) {gs' : Array Goroutine} {w' : World} {qi : Nat × Nat} {g' : Goroutine} {ops : Array MemOp} {B' : Nat → By} {Rd' : Nat → Loc → Prop} {cn' : Nat → Nat} {md' : Nat → Md}
    (hsz : gs'.size = gs.size) (hoth : ∀ x, x ≠ i → x ≠ h → gs'[x]? = gs[x]?) (hself : gs'[i]? = some g') (E : Ext V w w') (Ev : Env X w w') (hops : ∀ op ∈ ops, op.g = i) (hB : ∀ x, x ≠ i → B' x = B x) (hle : ByLe B B')
    (hRd : ∀ g l, Rd g l → Rd' g l) (hRd' : ∀ g l, Rd' g l → Rd g l ∨ (g = i ∧ (∃ c z home, B' i = .seat c z home) ∧ ∃ a, l = .cell a ∧ Prot X w' a))
    (hidle : Idle P X Rd' (T ++ ops) w' i qi g' (B' i)) (hmd : ∀ b, X.on b → MdOk X h gs.size B' cn' w' b (md' b)) (hfew : ∀ b, X.on b → sm X gs.size cn' b ≤ sm X gs.size cn b)
    (hpast : Tr X.Sh Rd' (fun g => g ≠ h ∧ ∃ c z home, B g = .seat c z home) (fun _ => False) (fun _ => False) w'.heap.size (Knows (T ++ ops) h) (T ++ ops)) :
    CrewM P X V h dh B' Rd' cn' (T ++ ops) gs' w' (upd q i qi) md' := by
  refine ⟨by rw [hsz]; exact C.hlt, fun x y hx hy => ?_, fun x c z home hx e => ?_, fun x x' c z z' home home' hx hx' e e' => C.inj x x' c z z' home home' hx hx' (hle.seat.1 e) (hle.seat.1 e'), fun j hj => ?_, ?_, fun g l hl => ?_, fun g l hg hl => ?_, fun a ha => ?_, C.sh, fun a ha => Nat.lt_of_lt_of_le (C.shlow a ha) E.size, fun b hb => Nat.lt_of_lt_of_le (C.exlow b hb) E.size,
    fun b o => by rw [hsz]; exact hmd b o, fun b o => by rw [hsz]; exact Nat.lt_of_le_of_lt (hfew b o) (C.few b o), fun x s hx e => ?_, C.volC, hpast.fewer fun g hg => ⟨hg.1, by obtain ⟨c, z, home, e⟩ := hg.2; exact ⟨c, z, home, hle.seat.1 e⟩⟩⟩
  · by_cases e : x = i
    · subst e
      rw [hself] at hy
      obtain rfl := Option.some.inj hy
      rw [upd_same]; exact hidle
    · rw [hoth x e hx] at hy
      rw [upd_ne q qi e, hB x e]
      exact (C.idle x y hx hy).env Ev (Deaf_other T (fun z => e z.symm) ops hops) (hRd x)
  · have e' := hle.seat.1 e
    obtain ⟨hc, k, hk⟩ := C.seats x c z home hx e'
    exact ⟨hc, k, by rw [C.chan_kept hx e' E]; exact hk⟩
  · rw [hsz] at hj
    obtain ⟨h1, h2, h3⟩ := C.out j hj
    have hji : j ≠ i := by omega
    refine ⟨(Deaf_other T (fun z => hji z.symm) ops hops).trans h1, fun l hl => ?_, by rw [hB j hji]; exact h3⟩
    rcases hRd' j l hl with x | ⟨x, _⟩
    · exact h2 l x
    · exact hji x
  · exact (Deaf_other T hih ops hops).trans C.hdeaf
  · rcases hRd' g l hl with x | ⟨_, x⟩
    · obtain ⟨a, rfl, ha⟩ := C.rdp g l x
      exact ⟨a, rfl, (Ev.prot ha).2⟩
    · exact x.2
  · rcases hRd' g l hl with x | ⟨rfl, x, _⟩
    · obtain ⟨c, z, home, e⟩ := C.rds g l hg x
      exact ⟨c, z, home, hle.seat.2 e⟩
    · exact x
  · obtain ⟨h1, h2, v, h3⟩ := C.st a ha
    exact ⟨Nat.lt_of_lt_of_le h1 E.size, h2, v, by rw [Ev.st a ha]; exact h3⟩
  · by_cases ex : x = i
    · subst ex
      rcases hle x with e' | ⟨⟨s', hs'⟩, _⟩
      · rw [e'] at e; exact C.volD x s hx e
      · exact C.volD x s' hx hs'
    · rw [hB x ex] at e
      exact C.volD x s hx e

/-- The world in which an operation of Done's has turned the group's block. -/
theorem env_group (X : Cx) (w : World) (a : Addr) (v : Value) {Wg : Nat} (ha : a.block = Wg) (hst : ∀ a, X.St a → ¬ X.on a.block) (o : X.on Wg) {st sm : Int} (hw : WgAt X.ty Wg w st sm) (hl : WgLive X.ty Wg (w.setCell a v)) : Env X w (w.setCell a v) := by
  refine ⟨by rw [size_setCell']; exact Nat.le_refl _, fun b hb => cell_of_block (heap_setCell_ne w a v fun e => hst b hb (by rw [e, ha]; exact o)), fun b hb => heap_setCell_ne w a v ?_, fun b' _ hlv => ?_, rfl, rfl⟩
  rotate_left
  · by_cases e : b' = Wg
    · rw [e]; exact hl
    · obtain ⟨s1, s2, h⟩ := hlv
      exact ⟨s1, s2, (heap_setCell_ne w a v (by rw [ha]; exact e)).trans h⟩
  rintro rfl
  obtain ⟨x, ty, hx, _, _, hn⟩ := hb
  rw [ha, hw] at hx
  simp only [wgBlock, Option.some.injEq, Obj.cells.injEq] at hx
  rw [← hx.1] at hn
  exact hn _ _ rfl

theorem wgAt_setSt {ty : TypeId} {Wg : Nat} {w : World} {st sm v : Int} (hw : WgAt ty Wg w st sm) : WgAt ty Wg (w.setCell (stA Wg) (.int .u64 v)) v sm := by
  unfold WgAt at hw ⊢
  simp [World.setCell, stA, Array.getElem?_modify, hw, wgBlock]

/-- Entries that are atomic touches of the group's block, made deaf. -/
theorem deaf_touches {g : Nat} {t : Trace} (hd : Deaf t g = 1) {Wg : Nat} {es : Array Event} (hes : Atm Wg es) (fn : FuncId) (pos : String) :
    (∀ op ∈ MemOp.ofEvents g fn pos es, op.g = g) ∧
    (∀ k op, (MemOp.ofEvents g fn pos es)[k]? = some op → ∀ b, op.act.touch? = some b → ((∃ a : Addr, b.loc = .cell a ∧ a.block = Wg) ∧ b.kind = .atomic ∧ ¬ (t ++ MemOp.ofEvents g fn pos es).heard (t.size + k))) ∧
    (∀ op ∈ MemOp.ofEvents g fn pos es, ∀ a, op.act ≠ .mark (.release a)) ∧ (∀ N, Wg < N → ∀ op ∈ MemOp.ofEvents g fn pos es, op.act.low N) ∧ Deaf (t ++ MemOp.ofEvents g fn pos es) g = 1 := by
  rcases hes with hes | rfl
  · have hmem : ∀ op ∈ MemOp.ofEvents g fn pos es, ∃ a x, op = { g := g, fn := fn, pos := pos, act := .access ⟨.cell a, x, true⟩ } ∧ a.block = Wg := by
      intro op hop
      obtain ⟨e, he, rfl⟩ := Go.Conc.mem_ofEvents hop
      obtain ⟨a, x, rfl, ha⟩ := hes e he
      exact ⟨a, x, by cases x <;> rfl, ha⟩
    refine ⟨fun op hop => ?_, fun k op hk b hb => ?_, fun op hop a => ?_, fun N hN op hop => ?_, ?_⟩
    · obtain ⟨a, x, rfl, _⟩ := hmem op hop; rfl
    · obtain ⟨a, x, rfl, ha⟩ := hmem op (Array.mem_of_getElem? hk)
      simp only [MemAct.touch?, Option.some.injEq] at hb
      subst hb
      refine ⟨⟨a, rfl, ha⟩, rfl, ?_⟩
      rintro ⟨g', hg', hd'⟩
      have hlt : k < (MemOp.ofEvents g fn pos es).size := (Array.getElem?_eq_some_iff.1 hk).1
      have hsz : (MemOp.ofEvents g fn pos es).size = es.size := by rw [ofEvents_eq]; simp
      rw [g?_of (op := { g := g, fn := fn, pos := pos, act := .access ⟨.cell a, x, true⟩ }) (by rw [at_new]; exact hk)] at hg'
      obtain rfl := Option.some.inj hg'
      rw [deaf_inside t g fn pos es k (by omega), hd] at hd'
      have h1 : deafBehind 1 (es.extract 0 k) = 1 := by
        refine deafBehind_still (fun e he => ?_) 1
        have he' : e ∈ es := by
          obtain ⟨j, hj, rfl⟩ := Array.mem_iff_getElem.1 he
          simp
        obtain ⟨a', x', rfl, _⟩ := hes e he'
        exact ⟨by simp, by simp⟩
      rw [h1] at hd'; cases hd'
    · obtain ⟨a', x, rfl, _⟩ := hmem op hop; simp
    · obtain ⟨a', x, rfl, ha⟩ := hmem op hop
      show a'.block < N
      omega
    · rw [Deaf_own, hd]
      refine deafBehind_still (fun e he => ?_) 1
      obtain ⟨a', x', rfl, _⟩ := hes e he
      exact ⟨by simp, by simp⟩
  · have hev : MemOp.ofEvents g fn pos (semEvents (smA Wg)) = #[{ g := g, fn := fn, pos := pos, act := .mark .disable }, { g := g, fn := fn, pos := pos, act := .access ⟨.cell (smA Wg), false, true⟩ }, { g := g, fn := fn, pos := pos, act := .access ⟨.cell (smA Wg), true, true⟩ }, { g := g, fn := fn, pos := pos, act := .mark .enable }] := by
      rw [ofEvents_eq]; simp [semEvents, MemAct.ofEvent]
    refine ⟨fun op hop => ?_, fun k op hk b hb => ?_, fun op hop a => ?_, fun N hN op hop => ?_, ?_⟩
    · rw [hev] at hop
      simp only [List.mem_toArray, List.mem_cons, List.not_mem_nil, or_false] at hop
      rcases hop with rfl | rfl | rfl | rfl <;> rfl
    · have hin : ∀ k', k' ≤ 4 → (t ++ MemOp.ofEvents g fn pos (semEvents (smA Wg))).deaf g (Array.size t + k') = deafBehind 1 ((semEvents (smA Wg)).extract 0 k') := fun k' h' => by
        rw [deaf_inside t g fn pos _ k' (by simpa [semEvents] using h'), hd]
      have hk0 := hk
      rw [hev] at hk
      rcases k with _ | _ | _ | _ | k
      · simp at hk; subst hk; cases hb
      · simp at hk; subst hk
        simp only [MemAct.touch?, Option.some.injEq] at hb
        subst hb
        refine ⟨⟨_, rfl, rfl⟩, rfl, ?_⟩
        rintro ⟨g', hg', hd'⟩
        rw [g?_of (by rw [at_new]; exact hk0)] at hg'
        obtain rfl := Option.some.inj hg'
        rw [hin 1 (by omega)] at hd'
        simp [semEvents, deafBehind] at hd'
      · simp at hk; subst hk
        simp only [MemAct.touch?, Option.some.injEq] at hb
        subst hb
        refine ⟨⟨_, rfl, rfl⟩, rfl, ?_⟩
        rintro ⟨g', hg', hd'⟩
        rw [g?_of (by rw [at_new]; exact hk0)] at hg'
        obtain rfl := Option.some.inj hg'
        rw [hin 2 (by omega)] at hd'
        simp [semEvents, deafBehind] at hd'
      · simp at hk; subst hk; cases hb
      · simp at hk
    · rw [hev] at hop
      simp only [List.mem_toArray, List.mem_cons, List.not_mem_nil, or_false] at hop
      rcases hop with rfl | rfl | rfl | rfl <;> simp
    · rw [hev] at hop
      simp only [List.mem_toArray, List.mem_cons, List.not_mem_nil, or_false] at hop
      rcases hop with rfl | rfl | rfl | rfl
      · trivial
      · exact hN
      · exact hN
      · trivial
    · rw [Deaf_own, hd]; rfl

def Less (n : Nat) (q' q : Nat → Nat × Nat) : Prop := sumTo n (fun i => (q' i).1) < sumTo n (fun i => (q i).1) ∨ (sumTo n (fun i => (q' i).1) = sumTo n (fun i => (q i).1) ∧ sumTo n (fun i => (q' i).2) < sumTo n (fun i => (q i).2))
theorem less_upd {n i : Nat} {q : Nat → Nat × Nat} {qi : Nat × Nat} (hi : i < n) (hl : qi.1 < (q i).1 ∨ (qi.1 = (q i).1 ∧ qi.2 < (q i).2)) : Less n (upd q i qi) q := by
  have h1 := sumTo_upd q qi Prod.fst hi
  have h2 := sumTo_upd q qi Prod.snd hi
  unfold Less
  rcases hl with h | ⟨h, k⟩
  · left; omega
  · right; constructor <;> omega

/-- What a bystander's step may do to the mode. -/
def MdLe (n n' : Nat) : Md → Md → Prop
  | .norm wt, .norm wt' => wt' = wt ∧ n' ≤ n
  | .norm wt, .last _ _ => wt = 1
  | .last _ _, .last _ _ => True
  | .last _ _, .sema => True
  | .sema, .sema => True
  | .fin, .fin => True
  | _, _ => False
theorem MdLe.refl (n : Nat) (m : Md) : MdLe n n m m := by cases m <;> simp [MdLe]
theorem wgAt_setSm {ty : TypeId} {Wg : Nat} {w : World} {st sm v : Int} (hw : WgAt ty Wg w st sm) : WgAt ty Wg (w.setCell (smA Wg) (.int .u32 v)) st v := by
  unfold WgAt at hw ⊢
  simp [World.setCell, smA, Array.getElem?_modify, hw, wgBlock]
theorem woken_or (P : Program) (g g' : Goroutine) (w' : World) (a : Goroutine) : woken P g g' w' a = a ∨ woken P g g' w' a = a.again w' := by
  unfold woken
  split
  · exact .inr rfl
  · exact .inl rfl
theorem goes_cases {ty : TypeId} {Wg C m : Nat} {Stop : Goroutine → World → Prop} {g : Goroutine} {w : World} (hG : Goes P false (RKeep ty Wg C) D0 Stop m g w) :
    Stop g w ∨ ∃ k g', m = k + 1 ∧ stepG P false g w = .go g' w #[] ∧ Goes P false (RKeep ty Wg C) D0 Stop k g' w := by
  cases m with
  | zero => exact .inl (hG w (rkeep_refl ty Wg C w))
  | succ k =>
    rcases hG with hs | ⟨_, hs⟩
    · exact .inl (hs w (rkeep_refl ty Wg C w))
    · have h1 := hs w (rkeep_refl ty Wg C w)
      cases e : stepG P false g w with
      | go g' w' es =>
        rw [e, goes_go] at h1
        obtain ⟨⟨e1, e2⟩, h2⟩ := h1
        subst e1 e2
        exact .inr ⟨k, g', rfl, rfl, h2⟩
      | _ => rw [e] at h1; exact h1.elim

theorem ofEvents_nil (g : Nat) (fn : FuncId) (pos : String) : MemOp.ofEvents g fn pos #[] = #[] := rfl
theorem upd_hit {α : Type} {f : Nat → α} {i : Nat} (x : α) (h : f i = x) : upd f i x = f := by
  funext k
  by_cases e : k = i
  · subst e; rw [upd_same, h]
  · rw [upd_ne f x e]

/-- What goroutine i leans on stands, and it may read it. -/
def LOk (X : Cx) (w : World) (Rd : Nat → Loc → Prop) (i : Nat) (L : Addr → Value → Prop) : Prop := ∀ a v, L a v → w.cell? a = some v ∧ Prot X w a ∧ Rd i (.cell a)

/-- Behind a bystander's step. -/
def ByDone (P : Program) (X : Cx) (V : Nat → Prop) (h dh : Nat) (B : Nat → By) (Rd : Nat → Loc → Prop) (cn : Nat → Nat) (T : Trace) (gs : Array Goroutine) (w : World) (q : Nat → Nat × Nat) (md : Nat → Md) (i : Nat) (g a : Goroutine) (sl : Option (Nat × Nat)) (Bi : By) : Prop :=
    ∃ (gs' : Array Goroutine) (ops : Array MemOp) (w' : World) (q' : Nat → Nat × Nat) (Rd' : Nat → Loc → Prop) (B' : Nat → By) (cn' : Nat → Nat) (md' : Nat → Md) (a' : Goroutine),
      runT P (crowd gs w sl) i = (.next (crowd gs' w' sl), ops) ∧ gs'.size = gs.size ∧ (gs'[h]? = some a' ∧ (a' = a ∨ a' = a.again w')) ∧ (∀ x, x ≠ i → q' x = q x) ∧ Ext V w w' ∧ Env X w w' ∧ Later h B cn B' cn' ∧ ((∀ x, x ≠ h → B x = .gone) → w' = w) ∧
      CrewM P X V h dh B' Rd' cn' (T ++ ops) gs' w' q' md' ∧ Less gs.size q' q ∧ (∀ c z home, Bi = .seat c z home → (q' i).2 = 0 → ∃ g₂ L, LOk X w Rd i L ∧ AtS P (i == 0) c z home L g g₂) ∧
      (cn' = cn ∨ sumTo gs.size (fun i => (q' i).1) < sumTo gs.size (fun i => (q i).1)) ∧ (∀ b, X.on b → (b ≠ X.wg i → md' b = md b) ∧ MdLe (sm X gs.size cn b) (sm X gs.size cn' b) (md b) (md' b)) ∧ (∀ b, ¬ X.on b → md' b = md b) ∧ (∀ b, md' b = .sema → md b ≠ .sema → a' = a.again w')
/-- A BYSTANDER's STEP. -/
theorem CrewM.by_step (C : CrewM P X V h dh B Rd cn T gs w q md) {i : Nat} {g : Goroutine} {sl : Option (Nat × Nat)} (hi : gs[i]? = some g) (hih : i ≠ h) (hrun : g.status = .running) {a : Goroutine} (ha : gs[h]? = some a)
    (hO : ∀ c z home g₂ L, B i = .seat c z home → LOk X w Rd i L → AtS P (i == 0) c z home L g g₂ → offersAt a c true = []) :
    ByDone P X V h dh B Rd cn T gs w q md i g a sl (B i) := by
  have hlt : i < gs.size := (Array.getElem?_eq_some_iff.1 hi).1
  have harr : ∀ (g' x' : Goroutine) (w' : World), Ext V w w' → ∀ x, x ≠ i → x ≠ h → ((gs.map (woken P g x' w')).setIfInBounds i g')[x]? = gs[x]? := by
    intro g' x' w' E x hx hxh
    rw [Array.getElem?_setIfInBounds_ne (fun e => hx e.symm), Array.getElem?_map]
    cases e : gs[x]? with
    | none => rfl
    | some y => simp [woken_of_again (C.fixed hxh e E)]
  have hself : ∀ (g' x' : Goroutine) (w' : World), ((gs.map (woken P g x' w')).setIfInBounds i g')[i]? = some g' := fun g' x' w' => Array.getElem?_setIfInBounds_self_of_lt (by simpa using hlt)
  have hhold : ∀ (g' x' : Goroutine) (w' : World), ((gs.map (woken P g x' w')).setIfInBounds i g')[h]? = some (woken P g x' w' a) := fun g' x' w' => by
    rw [Array.getElem?_setIfInBounds_ne hih, Array.getElem?_map, ha]; rfl
  have hid := C.idle i g hih hi
  have hmd0 : ∀ b, X.on b → (b ≠ X.wg i → md b = md b) ∧ MdLe (sm X gs.size cn b) (sm X gs.size cn b) (md b) (md b) := fun b _ => ⟨fun _ => rfl, MdLe.refl _ _⟩
  unfold ByDone
  cases eB : B i with
  | gone =>
    rw [eB] at hid
    obtain ⟨hpos, hq1, hQ⟩ := hid
    have hi0 : (i == 0) = false := by simp; omega
    cases hqi : (q i).2 with
    | zero => rw [hqi] at hQ; rw [hQ.1] at hrun; cases hrun
    | succ k =>
      rw [hqi] at hQ
      rcases hQ with ⟨hf, _⟩ | ⟨_, g', es, hm, hstp, hq'⟩
      · rw [hf] at hrun; cases hrun
      have hops : ∀ op ∈ MemOp.ofEvents i g.frame.fn g.frame.place es, op.g = i := fun op hop => by obtain ⟨e, _, rfl⟩ := Go.Conc.mem_ofEvents hop; rfl
      have hnt : ∀ op ∈ MemOp.ofEvents i g.frame.fn g.frame.place es, op.act.touch? = none := fun op hop => by obtain ⟨e, he, rfl⟩ := Go.Conc.mem_ofEvents hop; exact touch_mute (hm e he)
      refine ⟨_, _, w, upd q i (0, k), Rd, B, cn, md, _, runT_crowd_go (sl := sl) hi (by rw [hi0]; exact hstp w), by simp, ⟨hhold _ _ _, woken_or P g g' w a⟩, fun x hx => upd_ne q _ hx, Ext.refl V w, Env.refl X w, Later.refl h B cn, fun _ => rfl, ?_, less_upd hlt (.inr ⟨hq1.symm, by rw [hqi]; exact Nat.lt_succ_self k⟩), (fun c z home e _ => (by cases e)), .inl rfl, hmd0, fun _ _ => rfl, fun b e1 e2 => absurd e1 e2⟩
      refine C.turn hih hlt (by simp) (harr _ _ w (Ext.refl V w)) (hself _ _ _) (Ext.refl V w) (Env.refl X w) hops (fun _ _ => rfl) (ByLe.refl B) (fun _ _ x => x) (fun _ _ x => .inl x)
        (by rw [eB]; exact ⟨hpos, rfl, by rw [Deaf_own]; exact hq'⟩) C.mdok (fun _ _ => Nat.le_refl _) ?_
      refine C.past.appBy (fun _ => Knows.app _) hops (fun k op hk b hb => ?_) (fun op hop a' e => ?_) (fun hM => by obtain ⟨_, c, z, home, e⟩ := hM; rw [eB] at e; cases e) (fun op hop => ?_)
      · rw [hnt op (Array.mem_of_getElem? hk)] at hb; cases hb
      · obtain ⟨ev, he, rfl⟩ := Go.Conc.mem_ofEvents hop
        have := hm ev he
        obtain ⟨loc, wr, sy⟩ := ev
        cases loc with
        | mark m => cases m <;> simp [Event.mute, MemAct.ofEvent] at this e
        | _ => simp [Event.mute] at this
      · obtain ⟨ev, he, rfl⟩ := Go.Conc.mem_ofEvents hop
        exact low_mute (hm ev he) _
  | seat c z home =>
    rw [eB] at hid
    obtain ⟨hq1, L, hL, hS⟩ := hid
    obtain ⟨hCh, kk, hck⟩ := C.seats i c z home hih eB
    have hK : Kl L w := fun a v x => (hL a v x).1
    have hreads : ∀ es : Array Event, (∀ e ∈ es, EvR L e) → (∀ op ∈ MemOp.ofEvents i g.frame.fn g.frame.place es, op.g = i) ∧ (Tr X.Sh Rd (fun g => g ≠ h ∧ ∃ c z home, B g = .seat c z home) (fun _ => False) (fun _ => False) w.heap.size (Knows (T ++ MemOp.ofEvents i g.frame.fn g.frame.place es) h) (T ++ MemOp.ofEvents i g.frame.fn g.frame.place es)) := by
      intro es hes
      have hops : ∀ op ∈ MemOp.ofEvents i g.frame.fn g.frame.place es, op.g = i := fun op hop => by obtain ⟨e, _, rfl⟩ := Go.Conc.mem_ofEvents hop; rfl
      have hform : ∀ op ∈ MemOp.ofEvents i g.frame.fn g.frame.place es, ∃ a v, L a v ∧ op = { g := i, fn := g.frame.fn, pos := g.frame.place, act := .access ⟨.cell a, false, false⟩ } := by
        intro op hop
        obtain ⟨e, he, rfl⟩ := Go.Conc.mem_ofEvents hop
        obtain ⟨a, v, rfl, hav⟩ := hes e he
        exact ⟨a, v, hav, rfl⟩
      refine ⟨hops, C.past.appBy (fun _ => Knows.app _) hops (fun k op hk b hb => ?_) (fun op hop a' => ?_) (fun _ => ?_) (fun op hop => ?_)⟩
      · obtain ⟨a', v, hav, rfl⟩ := hform op (Array.mem_of_getElem? hk)
        simp only [MemAct.touch?, Option.some.injEq] at hb
        subst hb
        exact .inl ⟨rfl, (hL a' v hav).2.2⟩
      · obtain ⟨a'', v, _, rfl⟩ := hform op hop; simp
      · rw [Deaf_own]
        exact deafBehind_still (fun e he => by obtain ⟨a', v, rfl, _⟩ := hes e he; exact ⟨by simp, by simp⟩) _
      · obtain ⟨a', v, hav, rfl⟩ := hform op hop
        have := C.past.apart i _ (hL a' v hav).2.2
        exact this.2.2
    obtain ⟨k, hqk, hW⟩ : ∃ k, (q i).2 = k + 1 ∧ Way P X.Bx (i == 0) c z home k L g := by
      rcases hS with hS | ⟨_, _, g₂, rfl, _⟩
      · exact hS
      · cases hrun
    -- it stands at its receive, or has a step to go
    have hcase : (∃ g₂, AtS P (i == 0) c z home L g g₂) ∨ ∃ k', k = k' + 1 ∧ ((∃ g' es, stepG P (i == 0) g w = .go g' w es ∧ (∀ e ∈ es, EvR L e) ∧ Way P X.Bx (i == 0) c z home k' L g') ∨
        (∃ g' v ty, stepG P (i == 0) g w = .go g' (w.alloc (.cells #[v] ty)) #[] ∧ (X.Bx #[v] ty ∧ NoInt #[v]) ∧ Way P X.Bx (i == 0) c z home k' (plus L w.heap.size v) g')) := by
      cases k with
      | zero => exact .inl hW
      | succ k' => exact hW.elim .inl fun x => .inr ⟨k', rfl, x.2 w hK⟩
    rcases hcase with ⟨g₂, hat⟩ | ⟨k', rfl, ⟨g', es, hgo, hes, hW'⟩ | ⟨g', v, ty, hgo, hty, hW'⟩⟩
    · -- nobody meets it: it is parked
      obtain ⟨_, hhome, es, hes, hstp⟩ := id hat
      obtain ⟨hops, hpast⟩ := hreads es hes
      have hw : ∀ cc ∈ #[rcase c z], NoWays w (gs.setIfInBounds i ph) cc := by
        intro cc hcc
        simp only [List.mem_toArray, List.mem_cons, List.not_mem_nil, or_false] at hcc
        subst hcc
        refine ways_recv_none hck (partners_nil fun x y hy => ?_)
        rcases getElem?_stand gs i x y hy with ⟨_, rfl⟩ | ⟨_, hy'⟩
        · exact offersAt_ph _ _
        · by_cases hxh : x = h
          · subst hxh; rw [ha] at hy'; obtain rfl := Option.some.inj hy'; exact hO c z home g₂ L eB hL hat
          · exact C.noSend hxh hy' _
      refine ⟨_, _, w, upd q i (0, 0), Rd, B, cn, md, a, crowd_waits (sl := sl) hi (hstp w hK) hw, by simp, ⟨by rw [Array.getElem?_setIfInBounds_ne hih]; exact ha, .inl rfl⟩, fun x hx => upd_ne q _ hx, Ext.refl V w, Env.refl X w, Later.refl h B cn, fun _ => rfl, ?_, less_upd hlt (.inr ⟨hq1.symm, by rw [hqk]; exact Nat.succ_pos k⟩), (fun c' z' home' e _ => ?_), .inl rfl, hmd0, fun _ _ => rfl, fun b e1 e2 => absurd e1 e2⟩
      · exact C.turn hih hlt (by simp) (fun x hx _ => Array.getElem?_setIfInBounds_ne (fun e => hx e.symm)) (Array.getElem?_setIfInBounds_self_of_lt hlt) (Ext.refl V w) (Env.refl X w) hops (fun _ _ => rfl) (ByLe.refl B) (fun _ _ x => x) (fun _ _ x => .inl x)
          (by rw [eB]; exact ⟨rfl, L, hL, .inr ⟨rfl, g, g₂, rfl, hat⟩⟩) C.mdok (fun _ _ => Nat.le_refl _) hpast
      · obtain ⟨rfl, rfl, rfl⟩ := By.seat.inj e
        exact ⟨g₂, L, hL, hat⟩
    · -- a step of its way
      obtain ⟨hops, hpast⟩ := hreads es hes
      refine ⟨_, _, w, upd q i (0, k' + 1), Rd, B, cn, md, _, runT_crowd_go (sl := sl) hi hgo, by simp, ⟨hhold _ _ _, woken_or P g g' w a⟩, fun x hx => upd_ne q _ hx, Ext.refl V w, Env.refl X w, Later.refl h B cn, fun _ => rfl, ?_, less_upd hlt (.inr ⟨hq1.symm, by rw [hqk]; exact Nat.lt_succ_self _⟩), (fun _ _ _ _ h0 => ?_), .inl rfl, hmd0, fun _ _ => rfl, fun b e1 e2 => absurd e1 e2⟩
      · exact C.turn hih hlt (by simp) (harr _ _ w (Ext.refl V w)) (hself _ _ _) (Ext.refl V w) (Env.refl X w) hops (fun _ _ => rfl) (ByLe.refl B) (fun _ _ x => x) (fun _ _ x => .inl x)
          (by rw [eB]; exact ⟨rfl, L, hL, .inl ⟨k', rfl, hW'⟩⟩) C.mdok (fun _ _ => Nat.le_refl _) hpast
      · rw [upd_same] at h0; cases h0
    · -- it makes a box
      have E := Ext.alloc V w (.cells #[v] ty)
      have hex : ¬ X.Ex w.heap.size := fun x => Nat.lt_irrefl _ (C.exlow _ x)
      have hnew : (w.alloc (.cells #[v] ty)).heap[w.heap.size]? = some (.cells #[v] ty) := heap_alloc_new w _
      have hwg : ∀ b st sm, WgAt X.ty b w st sm → WgAt X.ty b (w.alloc (.cells #[v] ty)) st sm := fun b st sm hw => (heap_alloc_old w _ _ (Array.getElem?_eq_some_iff.1 hw).1).trans hw
      have Ev : Env X w (w.alloc (.cells #[v] ty)) := ⟨E.size, fun b hb => cell_of_block (heap_alloc_old w _ _ (C.st b hb).1), fun b hb => by obtain ⟨x, t', hx, _⟩ := hb; exact heap_alloc_old w _ _ (Array.getElem?_eq_some_iff.1 hx).1, fun b _ ⟨st, sm, hw⟩ => ⟨st, sm, hwg b st sm hw⟩, rfl, rfl⟩
      have hprot : Prot X (w.alloc (.cells #[v] ty)) ⟨w.heap.size, 0, none⟩ := .inr ⟨rfl, rfl, #[v], ty, hnew, hty.1, hex, hty.2⟩
      have hcell : (w.alloc (.cells #[v] ty)).cell? ⟨w.heap.size, 0, none⟩ = some v := by unfold World.cell?; rw [hnew]; rfl
      refine ⟨_, _, w.alloc (.cells #[v] ty), upd q i (0, k' + 1), fun g' l => Rd g' l ∨ (g' = i ∧ ∃ x : Addr, l = .cell x ∧ x = ⟨w.heap.size, 0, none⟩), B, cn, md, _, runT_crowd_go (sl := sl) hi hgo, by simp, ⟨hhold _ _ _, woken_or P g g' _ a⟩, fun x hx => upd_ne q _ hx, E, Ev, Later.refl h B cn,
        (fun hg => (by rw [hg i hih] at eB; cases eB)), ?_, less_upd hlt (.inr ⟨hq1.symm, by rw [hqk]; exact Nat.lt_succ_self _⟩), (fun _ _ _ _ h0 => ?_), .inl rfl, hmd0, fun _ _ => rfl, fun b e1 e2 => absurd e1 e2⟩
      · rw [ofEvents_nil]
        refine C.turn hih hlt (by simp) (harr _ _ _ E) (hself _ _ _) E Ev (fun op hop => by simp at hop) (fun _ _ => rfl) (ByLe.refl B) (fun _ _ x => .inl x) (fun g' l hl => ?_) ?_ (fun b o => (C.mdok b o).same (by obtain ⟨st, sm, hw⟩ := (C.mdok b o).wg; exact heap_alloc_old w _ _ (Array.getElem?_eq_some_iff.1 hw).1)) (fun _ _ => Nat.le_refl _) ?_
        · rcases hl with hl | ⟨e, x, rfl, rfl⟩
          · exact .inl hl
          · exact .inr ⟨e, ⟨c, z, home, eB⟩, _, rfl, hprot⟩
        · rw [eB]
          refine ⟨rfl, plus L w.heap.size v, fun a' v' hav => ?_, .inl ⟨k', rfl, hW'⟩⟩
          rcases hav with hav | ⟨rfl, rfl⟩
          · obtain ⟨x1, x2, x3⟩ := hL a' v' hav
            exact ⟨by rw [(Ev.prot x2).1]; exact x1, (Ev.prot x2).2, .inl x3⟩
          · exact ⟨hcell, hprot, .inr ⟨rfl, _, rfl, rfl⟩⟩
        · rw [Array.append_empty]
          exact C.past.grow (g := i) (R := fun x => x = ⟨w.heap.size, 0, none⟩) (fun x hx => by rw [hx]) (fun x hx hS => by have := C.shlow x hS; rw [hx] at this; exact Nat.lt_irrefl _ this) (by rw [World.size_alloc]; exact Nat.lt_succ_self _)
      · rw [upd_same] at h0; cases h0
  | dn s =>
    rw [eB] at hid
    obtain ⟨hpos, o, hq1, Cb, hCb, hD⟩ := hid
    have hi0 : (i == 0) = false := by simp; omega
    obtain ⟨b0, hb0⟩ : ∃ b0, X.wg i = b0 := ⟨_, rfl⟩
    rw [hb0] at o hD
    have hmdb := C.mdok b0 o
    obtain ⟨st0, sm0, hwg0⟩ := hmdb.wg
    have hWlt : b0 < w.heap.size := (Array.getElem?_eq_some_iff.1 hwg0).1
    have hops : ∀ es : Array Event, ∀ op ∈ MemOp.ofEvents i g.frame.fn g.frame.place es, op.g = i := fun es op hop => by obtain ⟨e, _, rfl⟩ := Go.Conc.mem_ofEvents hop; rfl
    have hnoM : ¬ (i ≠ h ∧ ∃ c z home, B i = .seat c z home) := fun ⟨_, c, z, home, e⟩ => by rw [eB] at e; cases e
    have hne : ∀ {b j : Nat}, b ≠ b0 → X.wg j = b → j ≠ i := fun hb hj e => hb (by rw [← hj, e, hb0])
    -- a step that leaves the world and lists no touch
    have silent : ∀ (s' m' : Nat) (g' : Goroutine) (es : Array Event), stepG P false g w = .go g' w es → (es = #[] ∨ es = #[Go.ConcR.mk .disable] ∨ es = #[Go.ConcR.mk (.releaseMerge (stA b0))]) → (4 ≤ s ∧ 4 ≤ s' ∨ s' = s) → (s' < s ∨ (s' = s ∧ m' < (q i).2)) → DnAt P X.ty b0 Cb s' m' (deafBehind (Deaf T i) es) g' w →
        ByDone P X V h dh B Rd cn T gs w q md i g a sl (.dn s) := by
      intro s' m' g' es hgo hes hs' hm hD'
      have hone : ∀ op ∈ MemOp.ofEvents i g.frame.fn g.frame.place es, op.act = .mark .disable ∨ op.act = .mark (.releaseMerge (stA b0)) := by
        intro op hop
        obtain ⟨e, he, rfl⟩ := Go.Conc.mem_ofEvents hop
        rcases hes with rfl | rfl | rfl
        · simp at he
        · simp only [List.mem_toArray, List.mem_cons, List.not_mem_nil, or_false] at he; subst he; exact .inl rfl
        · simp only [List.mem_toArray, List.mem_cons, List.not_mem_nil, or_false] at he; subst he; exact .inr rfl
      have hle : ByLe B (upd B i (.dn s')) := fun x => by
        by_cases e : x = i
        · subst e; exact .inr ⟨⟨s, eB⟩, .inl ⟨s', upd_same _ _ _⟩⟩
        · exact .inl (upd_ne B _ e)
      refine ⟨_, _, w, upd q i (s', m'), Rd, upd B i (.dn s'), cn, md, _, runT_crowd_go (sl := sl) hi (by rw [hi0]; exact hgo), by simp, ⟨hhold _ _ _, woken_or P g g' w a⟩, fun x hx => upd_ne q _ hx, Ext.refl V w, Env.refl X w, ⟨hle, fun _ _ => rfl⟩, fun _ => rfl, ?_, less_upd hlt (by rw [hq1]; exact hm), (fun _ _ _ e _ => (by cases e)), .inl rfl, hmd0, fun _ _ => rfl, fun b e1 e2 => absurd e1 e2⟩
      refine C.turn hih hlt (by simp) (harr _ _ w (Ext.refl V w)) (hself _ _ _) (Ext.refl V w) (Env.refl X w) (hops es) (fun x hx => upd_ne B _ hx) hle (fun _ _ x => x) (fun _ _ x => .inl x)
        (by rw [upd_same]; exact ⟨hpos, by rw [hb0]; exact o, rfl, Cb, hCb, by rw [Deaf_own, hb0]; exact hD'⟩) (fun b ob => ?_) (fun _ _ => Nat.le_refl _) ?_
      · by_cases hb : b = b0
        · subst hb
          cases hm0 : md b with
          | norm wt =>
            rw [hm0] at hmdb
            obtain ⟨h1, h2, h3, h4, h5⟩ := hmdb
            refine ⟨h1, h2, fun e => ⟨(h3 e).1, (h3 e).2.1, fun x hx hxb c z home e' => ?_⟩, fun x s'' hx hxb e => ?_, fun x hx hxb e => ?_⟩
            · by_cases ex : x = i
              · subst ex; rw [upd_same] at e'; cases e'
              · rw [upd_ne B _ ex] at e'; exact (h3 e).2.2 x hx hxb c z home e'
            · by_cases ex : x = i
              · subst ex
                rw [upd_same] at e
                obtain rfl := By.dn.inj e
                obtain ⟨c1, c2⟩ := h4 x s hx hxb eB
                exact ⟨c1, by omega⟩
              · rw [upd_ne B _ ex] at e; exact h4 x s'' hx hxb e
            · by_cases ex : x = i
              · subst ex; rw [upd_same] at e; cases e
              · rw [upd_ne B _ ex] at e; exact h5 x hx hxb e
          | last L sL =>
            rw [hm0] at hmdb
            obtain ⟨h1, hL, h2, h3, h4, h5⟩ := hmdb
            obtain rfl : i = L := Classical.byContradiction fun e => by have := h4 i hih hb0 e; rw [eB] at this; cases this
            rw [eB] at h2
            obtain rfl := By.dn.inj h2
            obtain rfl : s' = s := by omega
            rw [upd_hit _ eB]
            exact ⟨h1, hL, eB, h3, h4, h5⟩
          | sema => rw [hm0] at hmdb; have := hmdb.1 i hih hb0; rw [eB] at this; cases this
          | fin => rw [hm0] at hmdb; have := hmdb.1 i hih hb0; rw [eB] at this; cases this
        · exact (C.mdok b ob).others rfl (fun j hj => upd_ne B _ (hne hb hj)) (fun _ _ => rfl) rfl
      · refine C.past.appBy (fun _ => Knows.app _) (hops es) (fun k op hk b hb => ?_) (fun op hop a' e => ?_) (fun hM => absurd hM hnoM) (fun op hop => ?_)
        · rcases hone op (Array.mem_of_getElem? hk) with e | e <;> rw [e] at hb <;> cases hb
        · rcases hone op hop with e' | e' <;> rw [e'] at e <;> cases e
        · rcases hone op hop with e' | e' <;> rw [e']
          · trivial
          · exact hWlt
    -- an atomic touch of the group's block, made deaf
    have deaf : ∀ (w' : World) (g' : Goroutine) (es : Array Event) (Bi : By) (qi : Nat × Nat) (cn' : Nat → Nat) (m' : Md), Deaf T i = 1 → stepG P false g w = .go g' w' es → Atm b0 es → (w' = w ∨ ∃ a v, w' = w.setCell a v ∧ a.block = b0) → (∃ st sm, WgAt X.ty b0 w' st sm) →
        ((∃ s', Bi = .dn s') ∨ Bi = .gone) → (∀ T', Deaf T' i = 1 → Env X w w' → Idle P X Rd T' w' i qi g' Bi) → MdOk X h gs.size (upd B i Bi) cn' w' b0 m' → (∀ x, x ≠ i → cn' x = cn x) → sm X gs.size cn' b0 ≤ sm X gs.size cn b0 → qi.1 < s → MdLe (sm X gs.size cn b0) (sm X gs.size cn' b0) (md b0) m' →
        (m' = .sema → md b0 ≠ .sema → mayWake P g = true ∧ g'.status ≠ .blocked ∧ g'.status ≠ .waiting) →
        ByDone P X V h dh B Rd cn T gs w q md i g a sl (.dn s) := by
      intro w' g' es Bi qi cn' m' hd hgo hes hw' hlive hBi hidle hmd' hcn hsum hqi hmle hwake
      obtain ⟨t1, t2, t3, t4, t5⟩ := deaf_touches (t := T) hd hes g.frame.fn g.frame.place
      have hE : Ext V w w' ∧ Env X w w' ∧ w'.heap.size = w.heap.size ∧ ∀ b, b ≠ b0 → w'.heap[b]? = w.heap[b]? := by
        rcases hw' with rfl | ⟨x, v, rfl, hx⟩
        · exact ⟨Ext.refl V _, Env.refl X _, rfl, fun _ _ => rfl⟩
        · obtain ⟨st1, sm1, hl⟩ := hlive
          exact ⟨Ext.setCell w x v (by rw [hx, ← hb0]; exact C.volD i s hih eB), env_group X w x v hx (fun a' ha' => (C.st a' ha').2.1) o hwg0 ⟨st1, sm1, hl⟩, size_setCell' w x v, fun b hb => heap_setCell_ne w x v (by rw [hx]; exact hb)⟩
      have hle : ByLe B (upd B i Bi) := fun x => by
        by_cases e : x = i
        · subst e; rw [upd_same]; exact .inr ⟨⟨s, eB⟩, hBi⟩
        · exact .inl (upd_ne B _ e)
      have hsmo : ∀ b, b ≠ b0 → sm X gs.size cn' b = sm X gs.size cn b := fun b hb => sm_same fun j _ hj => hcn j (hne hb hj)
      refine ⟨_, _, w', upd q i qi, Rd, upd B i Bi, cn', upd md b0 m', _, runT_crowd_go (sl := sl) hi (by rw [hi0]; exact hgo), by simp, ⟨hhold _ _ _, woken_or P g g' w' a⟩, fun x hx => upd_ne q _ hx, hE.1, hE.2.1, ⟨hle, fun x hx => hcn x fun e => by
          subst e
          rcases hx with hx | hx
          · exact hih hx
          · exact hx s eB⟩, (fun hg => (by rw [hg i hih] at eB; cases eB)), ?_, less_upd hlt (.inl (by rw [hq1]; exact hqi)), (fun _ _ _ e _ => (by cases e)), .inr (by have := sumTo_upd q qi Prod.fst hlt; omega), fun b _ => ⟨fun hb => upd_ne md _ (by rw [← hb0]; exact hb), ?_⟩, fun b hb => upd_ne md _ (fun e => hb (by rw [e]; exact o)), fun b e1 e2 => ?_⟩
      · refine C.turn hih hlt (by simp) (harr _ _ w' hE.1) (hself _ _ _) hE.1 hE.2.1 t1 (fun x hx => upd_ne B _ hx) hle (fun _ _ x => x) (fun _ _ x => .inl x) (by rw [upd_same]; exact hidle _ t5 hE.2.1) (fun b ob => ?_) (fun b _ => ?_) ?_
        · by_cases hb : b = b0
          · subst hb; rw [upd_same]; exact hmd'
          · rw [upd_ne md _ hb]
            exact ((C.mdok b ob).same (hE.2.2.2 b hb)).others (hsmo b hb) (fun j hj => upd_ne B _ (hne hb hj)) (fun j hj => hcn j (hne hb hj)) rfl
        · by_cases hb : b = b0
          · subst hb; exact hsum
          · rw [hsmo b hb]; exact Nat.le_refl _
        · rw [hE.2.2.1]
          refine C.past.appBy (fun _ => Knows.app _) t1 (fun k op hk b hb => ?_) t3 (fun hM => absurd hM hnoM) (t4 _ hWlt)
          obtain ⟨⟨x, hx, hxW⟩, hk', hnh⟩ := t2 k op hk b hb
          exact .inr ⟨by rw [hx]; exact C.sh x (by rw [hxW]; exact o), hk', .inl hnh⟩
      · by_cases hb : b = b0
        · subst hb; rw [upd_same]; exact hmle
        · rw [upd_ne md _ hb, hsmo b hb]; exact MdLe.refl _ _
      · have hb : b = b0 := Classical.byContradiction fun hb => e2 (by rw [upd_ne md _ hb] at e1; exact e1)
        subst hb
        rw [upd_same] at e1
        obtain ⟨m1, m2, m3⟩ := hwake e1 e2
        unfold woken
        rw [if_pos (by simp [m1, m2, m3])]
    have hblocked : ∀ {n d : Nat} {g' : Goroutine}, QuitsD P n d g' → g'.status ≠ .blocked ∧ g'.status ≠ .waiting := fun hQ => by rcases hQ.status with e | e <;> rw [e] <;> simp
    have last : ∀ s', s' ≤ 3 → B i = .dn s' → md b0 = .last i s' ∧ (∀ x, x ≠ h → X.wg x = b0 → x ≠ i → B x = .gone) ∧ WgAt X.ty b0 w (if s' = 1 then 0 else 1) 0 := by
      intro s' hs' e
      cases hm0 : md b0 with
      | norm wt => rw [hm0] at hmdb; have := (hmdb.2.2.2.1 i s' hih hb0 e).2; omega
      | last L sL =>
        rw [hm0] at hmdb
        obtain ⟨h1, hL, h2, h3, h4, h5⟩ := hmdb
        obtain rfl : i = L := Classical.byContradiction fun e' => by have := h4 i hih hb0 e'; rw [e] at this; cases this
        rw [e] at h2
        obtain rfl := By.dn.inj h2
        exact ⟨rfl, h4, h5⟩
      | sema => rw [hm0] at hmdb; have := hmdb.1 i hih hb0; rw [e] at this; cases this
      | fin => rw [hm0] at hmdb; have := hmdb.1 i hih hb0; rw [e] at this; cases this
    have hidn : ∀ {s' m' : Nat} {g' : Goroutine} {T' : Trace} {w' : World}, Env X w w' → Deaf T' i = 1 → DnAt P X.ty b0 Cb s' m' 1 g' w' → Idle P X Rd T' w' i (s', m') g' (.dn s') := fun E hT hG => ⟨hpos, by rw [hb0]; exact o, rfl, Cb, E.box hCb, by rw [hT, hb0]; exact hG⟩
    match s, hD, hq1, eB with
    | 6, hD, hq1, eB =>
      obtain ⟨hd, hG⟩ := hD
      rcases goes_cases hG with ⟨_, g', hgo, m, hG'⟩ | ⟨k, g', hk, hgo, hG'⟩
      · exact silent 5 m g' _ hgo (.inr (.inr rfl)) (.inl ⟨by omega, by omega⟩) (.inl (by omega)) ⟨by rw [hd]; rfl, hG'⟩
      · exact silent 6 k g' _ hgo (.inl rfl) (.inr rfl) (.inr ⟨rfl, by omega⟩) ⟨by rw [hd]; rfl, hG'⟩
    | 5, hD, hq1, eB =>
      obtain ⟨hd, hG⟩ := hD
      rcases goes_cases hG with ⟨_, g', hgo, m, hG'⟩ | ⟨k, g', hk, hgo, hG'⟩
      · exact silent 4 m g' _ hgo (.inr (.inl rfl)) (.inl ⟨by omega, by omega⟩) (.inl (by omega)) ⟨by rw [hd]; rfl, hG'⟩
      · exact silent 5 k g' _ hgo (.inl rfl) (.inr rfl) (.inr ⟨rfl, by omega⟩) ⟨by rw [hd]; rfl, hG'⟩
    | 4, hD, hq1, eB =>
      obtain ⟨hd, hG⟩ := hD
      rcases goes_cases hG with ⟨_, hst⟩ | ⟨k, g', hk, hgo, hG'⟩
      · cases hm0 : md b0 with
        | last L sL =>
          rw [hm0] at hmdb
          obtain ⟨h1, hL, h2, h3, h4, h5⟩ := hmdb
          obtain rfl : i = L := Classical.byContradiction fun e => by have := h4 i hih hb0 e; rw [eB] at this; cases this
          rw [eB] at h2
          obtain rfl := By.dn.inj h2
          omega
        | sema => rw [hm0] at hmdb; have := hmdb.1 i hih hb0; rw [eB] at this; cases this
        | fin => rw [hm0] at hmdb; have := hmdb.1 i hih hb0; rw [eB] at this; cases this
        | norm wt =>
          rw [hm0] at hmdb
          obtain ⟨hwt, hwg, h3, h4, h5⟩ := hmdb
          have hcni := (h4 i 4 hih hb0 eB).1
          have hsum := le_sm (X := X) (cn := cn) hlt hb0
          obtain ⟨v, hv⟩ : ∃ v, sm X gs.size cn b0 = v + 1 := ⟨sm X gs.size cn b0 - 1, by omega⟩
          have hfew := C.few b0 o
          have hcast : (((sm X gs.size cn b0 : Nat) : Int) * KK + wt) = ((v : Int) + 1) * KK + wt := by rw [hv]; simp
          have hwg' : WgAt X.ty b0 w (((v : Int) + 1) * KK + wt) 0 := by rw [← hcast]; exact hwg
          obtain ⟨g', es, hgo, hes, hL, hQ⟩ := hst v wt hwt (by omega) hwg'
          have hnew : WgAt X.ty b0 (w.setCell (stA b0) (.int .u64 ((v : Int) * KK + wt))) ((v : Int) * KK + wt) 0 := wgAt_setSt hwg'
          have hsum' := sm_upd (X := X) (cn := cn) (x := 0) hlt hb0
          have hv' : sm X gs.size (upd cn i 0) b0 = v := by omega
          by_cases hlast : v = 0 ∧ wt = 1
          · obtain ⟨m, hG'⟩ := hL hlast
            obtain ⟨rfl, rfl⟩ := hlast
            refine deaf _ g' es (.dn 3) (3, m) (upd cn i 0) (.last i 3) hd hgo hes (.inr ⟨_, _, rfl, rfl⟩) ⟨_, _, hnew⟩ (.inl ⟨_, rfl⟩) (fun T' hT E => hidn E hT ⟨rfl, hG'⟩) ?_ (fun x hx => upd_ne cn _ hx) (by omega) (by omega) (by rw [hm0]; rfl) (fun e => by cases e)
            refine ⟨hih, hb0, upd_same _ _ _, by omega, fun x hx hxb hxi => ?_, by simpa using hnew⟩
            rw [upd_ne B _ hxi]
            cases e : B x with
            | gone => rfl
            | seat c z home => exact absurd e ((h3 rfl).2.2 x hx hxb c z home)
            | dn s' =>
              have hc1 := (h4 x s' hx hxb e).1
              have hxl : x < gs.size := by
                refine Classical.byContradiction fun hn => ?_
                have := (C.out x (by omega)).2.2
                rw [e] at this; cases this
              have := le_sm (X := X) (cn := upd cn i 0) hxl hxb
              rw [upd_ne cn _ hxi] at this
              omega
          · obtain ⟨qq, hQ⟩ := hQ hlast
            refine deaf _ g' es .gone (0, qq) (upd cn i 0) (.norm wt) hd hgo hes (.inr ⟨_, _, rfl, rfl⟩) ⟨_, _, hnew⟩ (.inr rfl) (fun T' hT _ => ⟨hpos, rfl, by rw [hT]; exact hQ⟩) ?_ (fun x hx => upd_ne cn _ hx) (by omega) (by omega) (by rw [hm0]; exact ⟨rfl, by omega⟩) (fun e => by cases e)
            refine ⟨hwt, by rw [hv']; exact hnew, fun e => ⟨by rw [hv']; omega, fun e' => by rw [upd_ne cn _ (fun e'' => hih e''.symm)]; exact (h3 e).2.1 e', fun x hx hxb c z home e' => ?_⟩, fun x s' hx hxb e => ?_, fun x hx hxb e => ?_⟩
            · by_cases ex : x = i
              · subst ex; rw [upd_same] at e'; cases e'
              · rw [upd_ne B _ ex] at e'; exact (h3 e).2.2 x hx hxb c z home e'
            · by_cases ex : x = i
              · subst ex; rw [upd_same] at e; cases e
              · rw [upd_ne B _ ex] at e
                rw [upd_ne cn _ ex]
                exact h4 x s' hx hxb e
            · by_cases ex : x = i
              · subst ex; exact upd_same _ _ _
              · rw [upd_ne B _ ex] at e
                rw [upd_ne cn _ ex]
                exact h5 x hx hxb e
      · exact silent 4 k g' _ hgo (.inl rfl) (.inr rfl) (.inr ⟨rfl, by omega⟩) ⟨by rw [hd]; rfl, hG'⟩
    | 3, hD, hq1, eB =>
      obtain ⟨hd, hG⟩ := hD
      obtain ⟨hm0, hoth, hwg⟩ := last 3 (by omega) eB
      rcases goes_cases hG with ⟨_, hst⟩ | ⟨k, g', hk, hgo, hG'⟩
      · obtain ⟨g', es, hgo, hes, m, hG'⟩ := hst hwg
        refine deaf w g' es (.dn 2) (2, m) cn (.last i 2) hd hgo hes (.inl rfl) ⟨_, _, hwg⟩ (.inl ⟨_, rfl⟩) (fun T' hT E => hidn E hT ⟨rfl, hG'⟩) ?_ (fun _ _ => rfl) (Nat.le_refl _) (by omega) (by rw [hm0]; trivial) (fun e => by cases e)
        exact ⟨hih, hb0, upd_same _ _ _, by omega, fun x hx hxb hxi => by rw [upd_ne B _ hxi]; exact hoth x hx hxb hxi, hwg⟩
      · exact silent 3 k g' _ hgo (.inl rfl) (.inr rfl) (.inr ⟨rfl, by omega⟩) ⟨by rw [hd]; rfl, hG'⟩
    | 2, hD, hq1, eB =>
      obtain ⟨hd, hG⟩ := hD
      obtain ⟨hm0, hoth, hwg⟩ := last 2 (by omega) eB
      rcases goes_cases hG with ⟨_, hst⟩ | ⟨k, g', hk, hgo, hG'⟩
      · obtain ⟨g', es, hgo, hes, m, hG'⟩ := hst hwg
        have hnew : WgAt X.ty b0 (w.setCell (stA b0) (.int .u64 0)) 0 0 := wgAt_setSt hwg
        refine deaf _ g' es (.dn 1) (1, m) cn (.last i 1) hd hgo hes (.inr ⟨_, _, rfl, rfl⟩) ⟨_, _, hnew⟩ (.inl ⟨_, rfl⟩) (fun T' hT E => hidn E hT ⟨rfl, hG'⟩) ?_ (fun _ _ => rfl) (Nat.le_refl _) (by omega) (by rw [hm0]; trivial) (fun e => by cases e)
        exact ⟨hih, hb0, upd_same _ _ _, by omega, fun x hx hxb hxi => by rw [upd_ne B _ hxi]; exact hoth x hx hxb hxi, hnew⟩
      · exact silent 2 k g' _ hgo (.inl rfl) (.inr rfl) (.inr ⟨rfl, by omega⟩) ⟨by rw [hd]; rfl, hG'⟩
    | 1, hD, hq1, eB =>
      obtain ⟨hd, hG⟩ := hD
      obtain ⟨hm0, hoth, hwg⟩ := last 1 (by omega) eB
      rcases goes_cases hG with ⟨_, hmw, hst⟩ | ⟨k, g', hk, hgo, hG'⟩
      · obtain ⟨g', es, hgo, hes, m, hQ⟩ := hst hwg
        have hnew : WgAt X.ty b0 (w.setCell (smA b0) (.int .u32 1)) 0 1 := wgAt_setSm hwg
        refine deaf _ g' es .gone (0, m) cn .sema hd hgo hes (.inr ⟨_, _, rfl, rfl⟩) ⟨_, _, hnew⟩ (.inr rfl) (fun T' hT _ => ⟨hpos, rfl, by rw [hT]; exact hQ⟩) ?_ (fun _ _ => rfl) (Nat.le_refl _) (by omega) (by rw [hm0]; trivial) (fun _ _ => ⟨hmw, hblocked hQ⟩)
        refine ⟨fun x hx hxb => ?_, hnew⟩
        by_cases ex : x = i
        · subst ex; exact upd_same _ _ _
        · rw [upd_ne B _ ex]; exact hoth x hx hxb ex
      · exact silent 1 k g' _ hgo (.inl rfl) (.inr rfl) (.inr ⟨rfl, by omega⟩) ⟨by rw [hd]; rfl, hG'⟩
    | 0, hD, _, _ => exact hD.elim
    | s + 7, hD, _, _ => exact hD.elim
end
end Cw
end
end Go.Proofs.Ytggfcdhkgldbfaa
