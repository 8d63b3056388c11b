/-
  PARTS of a claim, merged by segs.py: NwM.
-/
import Derived.Test.YtggfcdhkgldbfaaN01
import Derived.Conc.WgGenN2
namespace Go.Proofs.Ytggfcdhkgldbfaa
set_option linter.unusedSimpArgs false
set_option linter.unusedVariables false

/-! ### NwM -/
section
namespace Cw
open Go Go.Conc
open Go.ConcN (sumTo upd upd_same upd_ne sumTo_upd sumTo_congr WgLive le_sumTo)
open Go.ConcR (KK wgBlock WgAt stA smA rd wr mk)

/-! ### worlds -/
structure Ext (V : Nat → Prop) (w w₁ : World) : Prop where
  size : w.heap.size ≤ w₁.heap.size
  same : ∀ b, b < w.heap.size → ¬ V b → w₁.heap[b]? = w.heap[b]?
  tape : w₁.tape = w.tape
  os : w₁.os = w.os
  output : w₁.output = w.output
theorem Ext.refl (V : Nat → Prop) (w : World) : Ext V w w := ⟨Nat.le_refl _, fun _ _ _ => rfl, rfl, rfl, rfl⟩
theorem Ext.trans {V : Nat → Prop} {a b c : World} (h : Ext V a b) (k : Ext V b c) : Ext V a c :=
  ⟨Nat.le_trans h.size k.size, fun x hx hv => (k.same x (Nat.lt_of_lt_of_le hx h.size) hv).trans (h.same x hx hv), k.tape.trans h.tape, k.os.trans h.os, k.output.trans h.output⟩
theorem Ext.at (V : Nat → Prop) (w : World) (d : Nat) : Ext V w (w.at d) := ⟨Nat.le_refl _, fun _ _ _ => rfl, rfl, rfl, rfl⟩
theorem Ext.alloc (V : Nat → Prop) (w : World) (o : Obj) : Ext V w (w.alloc o) := ⟨by simp, fun b hb _ => heap_alloc_old w o b hb, rfl, rfl, rfl⟩
theorem Ext.more {V V' : Nat → Prop} {a b : World} (h : Ext V a b) (hV : ∀ x, V x → V' x) : Ext V' a b := ⟨h.size, fun x hx hv => h.same x hx fun y => hv (hV x y), h.tape, h.os, h.output⟩
theorem cell_of_block {w w' : World} {a : Addr} (h : w'.heap[a.block]? = w.heap[a.block]?) : w'.cell? a = w.cell? a := by unfold World.cell?; rw [h]
theorem heap_setCell_ne (w : World) (a : Addr) (v : Value) {b : Nat} (h : b ≠ a.block) : (w.setCell a v).heap[b]? = w.heap[b]? := by
  unfold World.setCell
  simp only [Array.getElem?_modify, if_neg (fun e : a.block = b => h e.symm)]
theorem size_setCell' (w : World) (a : Addr) (v : Value) : (w.setCell a v).heap.size = w.heap.size := by simp [World.setCell]
theorem Ext.setCell {V : Nat → Prop} (w : World) (a : Addr) (v : Value) (h : V a.block) : Ext V w (w.setCell a v) :=
  ⟨by rw [size_setCell']; exact Nat.le_refl _, fun b _ hv => heap_setCell_ne w a v fun e => hv (e ▸ h), rfl, rfl, rfl⟩

/-- What is fixed for a frame's life: the still cells; the types of boxes that nobody writes, and the blocks excepted; the blocks that no row of the holder's is in; the seats' channels; the groups' cells; the group of each goroutine; the groups at work. -/
structure Cx where
  St : Addr → Prop
  Bx : Array Value → TypeId → Prop
  Ex : Nat → Prop
  Lo : Nat → Prop
  Ch : Nat → Prop
  Sh : Loc → Prop
  wg : Nat → Nat
  ty : TypeId
  on : Nat → Prop

/-- Its first cell is no number: no group's block is a box. -/
def NoInt (cs : Array Value) : Prop := ∀ k n, cs[0]? ≠ some (.int k n)
def BoxAt (X : Cx) (w : World) (b : Nat) : Prop := ∃ cs ty, w.heap[b]? = some (.cells cs ty) ∧ X.Bx cs ty ∧ ¬ X.Ex b ∧ NoInt cs
def Prot (X : Cx) (w : World) (a : Addr) : Prop := X.St a ∨ (a.off = a.off ∧ a.spot = none ∧ BoxAt X w a.block)

/-- No function. -/
def NotFn (v : Value) : Prop := ∀ f a c, v ≠ .func f a c
/-- What everybody's steps keep. -/
structure Env (X : Cx) (w w' : World) : Prop where
  size : w.heap.size ≤ w'.heap.size
  st : ∀ a, X.St a → w'.cell? a = w.cell? a
  bx : ∀ b, BoxAt X w b → w'.heap[b]? = w.heap[b]?
  live : ∀ b, X.on b → WgLive X.ty b w → WgLive X.ty b w'
  io : w'.os = w.os ∧ w'.output = w.output
theorem Env.refl (X : Cx) (w : World) : Env X w w := ⟨Nat.le_refl _, fun _ _ => rfl, fun _ _ => rfl, fun _ _ x => x, rfl, rfl⟩
theorem Env.box {X : Cx} {w w' : World} (E : Env X w w') {b : Nat} (h : BoxAt X w b) : BoxAt X w' b := by
  obtain ⟨v, ty, h1, h2⟩ := h
  exact ⟨v, ty, by rw [E.bx b ⟨v, ty, h1, h2⟩]; exact h1, h2⟩
theorem Env.prot {X : Cx} {w w' : World} (E : Env X w w') {a : Addr} (h : Prot X w a) : w'.cell? a = w.cell? a ∧ Prot X w' a := by
  rcases h with h | ⟨h1, h2, h3⟩
  · exact ⟨E.st a h, .inl h⟩
  · exact ⟨cell_of_block (E.bx _ h3), .inr ⟨h1, h2, E.box h3⟩⟩
theorem Env.trans {X : Cx} {a b c : World} (h : Env X a b) (k : Env X b c) : Env X a c :=
  ⟨Nat.le_trans h.size k.size, fun x hx => (k.st x hx).trans (h.st x hx), fun x hx => (k.bx x (h.box hx)).trans (h.bx x hx), fun b o l => k.live b o (h.live b o l), k.io.1.trans h.io.1, k.io.2.trans h.io.2⟩
theorem Env.at (X : Cx) (w : World) (d : Nat) : Env X w (w.at d) := ⟨Nat.le_refl _, fun _ _ => rfl, fun _ _ => rfl, fun _ _ x => x, rfl, rfl⟩

/-! ### on the way to a seat -/
def Kl (L : Addr → Value → Prop) (w : World) : Prop := ∀ a v, L a v → w.cell? a = some v
def EvR (L : Addr → Value → Prop) (e : Event) : Prop := ∃ a v, e = ⟨.cell a, false, false⟩ ∧ L a v
/-- What a goroutine does once it is served at its seat: of its record at the receive, and of what it leans on. -/
abbrev Hm := Goroutine → (Addr → Value → Prop) → Prop
def plus (L : Addr → Value → Prop) (b : Nat) (v : Value) : Addr → Value → Prop := fun a x => L a x ∨ (a = ⟨b, 0, none⟩ ∧ x = v)

section
variable (P : Program) (Bx : Array Value → TypeId → Prop) (main : Bool) (c : Nat) (z : Value) (home : Hm)
/-- It stands at its seat's receive. -/
def AtS (L : Addr → Value → Prop) (g g₂ : Goroutine) : Prop :=
  g.status = .running ∧ home g₂ L ∧ ∃ es, (∀ e ∈ es, EvR L e) ∧ ∀ w, Kl L w → stepG P main g w = .comm g₂ #[rcase c z] true (.recv false) w es
/-- Within n steps it stands there. -/
def Way : Nat → (Addr → Value → Prop) → Goroutine → Prop
  | 0, L, g => ∃ g₂, AtS P main c z home L g g₂
  | n + 1, L, g => (∃ g₂, AtS P main c z home L g g₂) ∨ (g.status = .running ∧ ∀ w, Kl L w →
      (∃ g' es, stepG P main g w = .go g' w es ∧ (∀ e ∈ es, EvR L e) ∧ Way n L g') ∨
      (∃ g' v ty, stepG P main g w = .go g' (w.alloc (.cells #[v] ty)) #[] ∧ (Bx #[v] ty ∧ NoInt #[v]) ∧ Way n (plus L w.heap.size v) g'))
def Sits (n : Nat) (L : Addr → Value → Prop) (g : Goroutine) : Prop :=
  (∃ k, n = k + 1 ∧ Way P Bx main c z home k L g) ∨ (n = 0 ∧ ∃ g₀ g₂, g = parked g₂ #[rcase c z] (.recv false) ∧ AtS P main c z home L g₀ g₂)
end

theorem Way.running {P : Program} {Bx : Array Value → TypeId → Prop} {main : Bool} {c : Nat} {z : Value} {home : Hm} {n : Nat} {L : Addr → Value → Prop} {g : Goroutine} (h : Way P Bx main c z home n L g) : g.status = .running := by
  cases n with
  | zero => exact h.choose_spec.1
  | succ n => exact h.elim (fun x => x.choose_spec.1) (·.1)
theorem Sits.status {P : Program} {Bx : Array Value → TypeId → Prop} {main : Bool} {c : Nat} {z : Value} {home : Hm} {n : Nat} {L : Addr → Value → Prop} {g : Goroutine} (h : Sits P Bx main c z home n L g) :
    (g.status = .running ∧ 0 < n) ∨ (∃ g₂, g = parked g₂ #[rcase c z] (.recv false) ∧ n = 0) := by
  rcases h with ⟨k, rfl, hw⟩ | ⟨rfl, _, g₂, rfl, _⟩
  · exact .inl ⟨hw.running, by omega⟩
  · exact .inr ⟨g₂, rfl, rfl⟩

/-! ### at Done -/
def RLive (ty : TypeId) (Wg : Nat) (w w₁ : World) : Prop := WgLive ty Wg w → WgLive ty Wg w₁
/-- .. and a block that nobody turns. -/
def RKeep (ty : TypeId) (Wg C : Nat) (w w₁ : World) : Prop := (WgLive ty Wg w → WgLive ty Wg w₁) ∧ w₁.heap[C]? = w.heap[C]?
abbrev D0 (w w' : World) (es : Array Event) : Prop := Go.ConcR.DC0 w w' es
/-- Every entry is an atomic touch of the group's block; or it is the semaphore's. -/
def Atm (Wg : Nat) (es : Array Event) : Prop := (∀ e ∈ es, ∃ a x, e = ⟨.cell a, x, true⟩ ∧ a.block = Wg) ∨ es = semEvents (smA Wg)
section
variable (P : Program) (ty : TypeId) (Wg C : Nat)
/-- At the release of the semaphore. -/
def St4 (g : Goroutine) (w : World) : Prop :=
  g.status = .running ∧ mayWake P g = true ∧ (WgAt ty Wg w 0 0 → ∃ g' es, stepG P false g w = .go g' (w.setCell (smA Wg) (.int .u32 1)) es ∧ Atm Wg es ∧ ∃ q, QuitsD P q 1 g')
/-- At the store of nought. -/
def St3 (g : Goroutine) (w : World) : Prop :=
  g.status = .running ∧ (WgAt ty Wg w 1 0 → ∃ g' es, stepG P false g w = .go g' (w.setCell (stA Wg) (.int .u64 0)) es ∧ Atm Wg es ∧ ∃ m, (Goes P false (RKeep ty Wg C) D0) (St4 P ty Wg) m g' (w.setCell (stA Wg) (.int .u64 0)))
/-- At the load. -/
def St2 (g : Goroutine) (w : World) : Prop :=
  g.status = .running ∧ (WgAt ty Wg w 1 0 → ∃ g' es, stepG P false g w = .go g' w es ∧ Atm Wg es ∧ ∃ m, (Goes P false (RKeep ty Wg C) D0) (St3 P ty Wg C) m g' w)
/-- At the atomic add of -1: whatever the count, whether or not somebody waits. -/
def St1 (g : Goroutine) (w : World) : Prop :=
  g.status = .running ∧ ∀ v wt : Nat, wt ≤ 1 → v < 2147483647 → WgAt ty Wg w (((v : Int) + 1) * KK + wt) 0 →
    ∃ g' es, stepG P false g w = .go g' (w.setCell (stA Wg) (.int .u64 ((v : Int) * KK + wt))) es ∧ Atm Wg es ∧
      ((v = 0 ∧ wt = 1) → ∃ m, (Goes P false (RKeep ty Wg C) D0) (St2 P ty Wg C) m g' (w.setCell (stA Wg) (.int .u64 ((v : Int) * KK + wt)))) ∧ (¬ (v = 0 ∧ wt = 1) → ∃ q, QuitsD P q 1 g')
/-- At 'disable'. -/
def StK (g : Goroutine) (w : World) : Prop :=
  g.status = .running ∧ ∃ g', stepG P false g w = .go g' w #[mk .disable] ∧ ∃ m, (Goes P false (RKeep ty Wg C) D0) (St1 P ty Wg C) m g' w
/-- At its release. -/
def StR (g : Goroutine) (w : World) : Prop :=
  g.status = .running ∧ ∃ g', stepG P false g w = .go g' w #[mk (.releaseMerge (stA Wg))] ∧ ∃ m, (Goes P false (RKeep ty Wg C) D0) (StK P ty Wg C) m g' w
/-- Stage 6: ahead of its release; 5: of 'disable'; 4: of the atomic add; 3, 2, 1: the last one, behind it. d: how many of its 'disable's stand open. -/
def DnAt (s m d : Nat) (g : Goroutine) (w : World) : Prop :=
  match s with
  | 6 => d = 0 ∧ (Goes P false (RKeep ty Wg C) D0) (StR P ty Wg C) m g w
  | 5 => d = 0 ∧ (Goes P false (RKeep ty Wg C) D0) (StK P ty Wg C) m g w
  | 4 => d = 1 ∧ (Goes P false (RKeep ty Wg C) D0) (St1 P ty Wg C) m g w
  | 3 => d = 1 ∧ (Goes P false (RKeep ty Wg C) D0) (St2 P ty Wg C) m g w
  | 2 => d = 1 ∧ (Goes P false (RKeep ty Wg C) D0) (St3 P ty Wg C) m g w
  | 1 => d = 1 ∧ (Goes P false (RKeep ty Wg C) D0) (St4 P ty Wg) m g w
  | _ => False
end
theorem rlive_trans {ty : TypeId} {Wg : Nat} (a b c : World) (h : RLive ty Wg a b) (k : RLive ty Wg b c) : RLive ty Wg a c := fun x => k (h x)
theorem rkeep_trans {ty : TypeId} {Wg C : Nat} (a b c : World) (h : RKeep ty Wg C a b) (k : RKeep ty Wg C b c) : RKeep ty Wg C a c := ⟨fun x => k.1 (h.1 x), k.2.trans h.2⟩
theorem rkeep_refl (ty : TypeId) (Wg C : Nat) (w : World) : RKeep ty Wg C w w := ⟨id, rfl⟩
theorem DnAt.rely {P : Program} {ty : TypeId} {Wg C s m d : Nat} {g : Goroutine} {w w' : World} (h : DnAt P ty Wg C s m d g w) (r : RKeep ty Wg C w w') : DnAt P ty Wg C s m d g w' := by
  unfold DnAt at h ⊢
  split at h <;> first | exact ⟨h.1, h.2.rely rkeep_trans r⟩ | exact h
theorem goes_run {P : Program} {ty : TypeId} {Wg C m : Nat} {Stop : Goroutine → World → Prop} {g : Goroutine} {w : World} (hS : ∀ g w, Stop g w → g.status = .running) (h : Goes P false (RKeep ty Wg C) D0 Stop m g w) : g.status = .running := by
  cases m with
  | zero => exact hS _ _ (h w (rkeep_refl ty Wg C w))
  | succ m => exact h.elim (fun x => hS _ _ (x w (rkeep_refl ty Wg C w))) (·.1)
theorem DnAt.running {P : Program} {ty : TypeId} {Wg C s m d : Nat} {g : Goroutine} {w : World} (h : DnAt P ty Wg C s m d g w) : g.status = .running := by
  unfold DnAt at h
  split at h <;> first | exact goes_run (fun _ _ x => x.1) h.2 | exact h.elim

/-! ### the bystanders, and the frame -/
inductive By where
  | gone
  | seat (c : Nat) (z : Value) (home : Hm)
  | dn (s : Nat)

def Idle (P : Program) (X : Cx) (Rd : Nat → Loc → Prop) (T : Trace) (w : World) (i : Nat) (q : Nat × Nat) (g : Goroutine) : By → Prop
  | .gone => 0 < i ∧ q.1 = 0 ∧ QuitsD P q.2 (Deaf T i) g
  | .seat c z home => q.1 = 0 ∧ ∃ L, (∀ a v, L a v → w.cell? a = some v ∧ Prot X w a ∧ Rd i (.cell a)) ∧ Sits P X.Bx (i == 0) c z home q.2 L g
  | .dn s => 0 < i ∧ X.on (X.wg i) ∧ q.1 = s ∧ ∃ C, BoxAt X w C ∧ DnAt P X.ty (X.wg i) C s q.2 (Deaf T i) g w

theorem Idle.env {P : Program} {X : Cx} {Rd Rd' : Nat → Loc → Prop} {T T' : Trace} {w w' : World} {i : Nat} {q : Nat × Nat} {g : Goroutine} {B : By} (h : Idle P X Rd T w i q g B) (E : Env X w w') (hd : Deaf T' i = Deaf T i) (hR : ∀ l, Rd i l → Rd' i l) :
    Idle P X Rd' T' w' i q g B := by
  cases B with
  | gone => exact ⟨h.1, h.2.1, by rw [hd]; exact h.2.2⟩
  | seat c z home =>
    obtain ⟨h1, L, hL, hS⟩ := h
    exact ⟨h1, L, fun a v hav => by
      obtain ⟨x, y, r⟩ := hL a v hav
      exact ⟨by rw [(E.prot y).1]; exact x, (E.prot y).2, hR _ r⟩, hS⟩
  | dn s =>
    obtain ⟨h1, h2, h3, C, hC, hD⟩ := h
    exact ⟨h1, h2, h3, C, E.box hC, by rw [hd]; exact hD.rely ⟨E.live _ h2, E.bx C hC⟩⟩

theorem Idle.status {P : Program} {X : Cx} {Rd : Nat → Loc → Prop} {T : Trace} {w : World} {i : Nat} {q : Nat × Nat} {g : Goroutine} {B : By} (h : Idle P X Rd T w i q g B) :
    g.status = .running ∨ g.status = .finished ∨ ∃ c z home g₂, B = .seat c z home ∧ g = parked g₂ #[rcase c z] (.recv false) := by
  cases B with
  | gone => exact h.2.2.status.elim .inl fun x => .inr (.inl x)
  | seat c z home =>
    obtain ⟨_, L, _, hS⟩ := h
    rcases hS.status with ⟨x, _⟩ | ⟨g₂, rfl, _⟩
    · exact .inl x
    · exact .inr (.inr ⟨c, z, home, g₂, rfl, rfl⟩)
  | dn s => exact .inl h.2.2.2.choose_spec.2.running

/-- How a group's two cells stand: 'norm wt': the count, and whether the holder has registered; 'last L s': the last one, L, is at stage s; 'sema': the semaphore is up; 'fin': all is done. -/
inductive Md where
  | norm (wt : Nat)
  | last (L s : Nat)
  | sema
  | fin
/-- A group's count. -/
def sm (X : Cx) (n : Nat) (cn : Nat → Nat) (b : Nat) : Nat := sumTo n fun i => if X.wg i = b then cn i else 0
def MdOk (X : Cx) (h n : Nat) (B : Nat → By) (cn : Nat → Nat) (w : World) (b : Nat) : Md → Prop
  | .norm wt => wt ≤ 1 ∧ WgAt X.ty b w ((sm X n cn b : Nat) * KK + wt) 0 ∧ (wt = 1 → 1 ≤ sm X n cn b ∧ (X.wg h = b → cn h = 0) ∧ ∀ i, i ≠ h → X.wg i = b → ∀ c z home, B i ≠ .seat c z home) ∧ (∀ i s, i ≠ h → X.wg i = b → B i = .dn s → cn i = 1 ∧ 4 ≤ s) ∧ ∀ i, i ≠ h → X.wg i = b → B i = .gone → cn i = 0
  | .last L s => L ≠ h ∧ X.wg L = b ∧ B L = .dn s ∧ s ≤ 3 ∧ (∀ i, i ≠ h → X.wg i = b → i ≠ L → B i = .gone) ∧ WgAt X.ty b w (if s = 1 then 0 else 1) 0
  | .sema => (∀ i, i ≠ h → X.wg i = b → B i = .gone) ∧ WgAt X.ty b w 0 1
  | .fin => (∀ i, i ≠ h → X.wg i = b → B i = .gone) ∧ WgAt X.ty b w 0 0

/-- THE FRAME: goroutine h holds. B i: what bystander i is about; Rd i: what it may read; cn i: whether it is counted in its group; q i: how far it still has to go; V: the blocks that bystanders turn; md: how the groups at work stand. -/
structure CrewM (P : Program) (X : Cx) (V : Nat → Prop) (h dh : Nat) (B : Nat → By) (Rd : Nat → Loc → Prop) (cn : Nat → Nat) (T : Trace) (gs : Array Goroutine) (w : World) (q : Nat → Nat × Nat) (md : Nat → Md) : Prop where
  hlt : h < gs.size
  idle : ∀ i g, i ≠ h → gs[i]? = some g → Idle P X Rd T w i (q i) g (B i)
  seats : ∀ i c z home, i ≠ h → B i = .seat c z home → X.Ch c ∧ ∃ k, w.heap[c]? = some (.chan 0 #[] false k k false)
  inj : ∀ i i' c z z' home home', i ≠ h → i' ≠ h → B i = .seat c z home → B i' = .seat c z' home' → i = i'
  out : ∀ j, gs.size ≤ j → Deaf T j = 0 ∧ (∀ l, ¬ Rd j l) ∧ B j = .gone
  hdeaf : Deaf T h = dh
  rdp : ∀ g l, Rd g l → ∃ a, l = .cell a ∧ Prot X w a
  rds : ∀ g l, g ≠ h → Rd g l → ∃ c z home, B g = .seat c z home
  st : ∀ a, X.St a → a.block < w.heap.size ∧ ¬ X.on a.block ∧ ∃ v, w.cell? a = some v ∧ NotFn v
  sh : ∀ a : Addr, X.on a.block → X.Sh (.cell a)
  shlow : ∀ a, X.Sh (.cell a) → a.block < w.heap.size
  exlow : ∀ b, X.Ex b → b < w.heap.size
  mdok : ∀ b, X.on b → MdOk X h gs.size B cn w b (md b)
  few : ∀ b, X.on b → sm X gs.size cn b < 2147483647
  volD : ∀ i s, i ≠ h → B i = .dn s → V (X.wg i)
  volC : ∀ c, X.Ch c → ¬ V c
  past : Tr X.Sh Rd (fun g => g ≠ h ∧ ∃ c z home, B g = .seat c z home) (fun _ => False) (fun _ => False) w.heap.size (Knows T h) T
/-- Nobody waits for a group. -/
abbrev Crew (P : Program) (X : Cx) (V : Nat → Prop) (h dh : Nat) (B : Nat → By) (Rd : Nat → Loc → Prop) (cn : Nat → Nat) (T : Trace) (gs : Array Goroutine) (w : World) (q : Nat → Nat × Nat) : Prop := CrewM P X V h dh B Rd cn T gs w q (fun _ => .norm 0)
section
variable {P : Program} {X : Cx} {V : Nat → Prop} {h dh : Nat} {B : Nat → By} {Rd : Nat → Loc → Prop} {cn : Nat → Nat} {T : Trace} {gs : Array Goroutine} {w : World} {q : Nat → Nat × Nat} {b : Nat}
theorem MdOk.wg {n : Nat} {m : Md} (H : MdOk X h n B cn w b m) : ∃ st sm, WgAt X.ty b w st sm := by
  cases m with
  | norm wt => exact ⟨_, _, H.2.1⟩
  | last L s => exact ⟨_, _, H.2.2.2.2.2⟩
  | sema => exact ⟨_, _, H.2⟩
  | fin => exact ⟨_, _, H.2⟩
/-- The group's block where another's is turned. -/
theorem MdOk.same {n : Nat} {m : Md} {w' : World} (H : MdOk X h n B cn w b m) (hs : w'.heap[b]? = w.heap[b]?) : MdOk X h n B cn w' b m := by
  have hw : ∀ st sm, WgAt X.ty b w st sm → WgAt X.ty b w' st sm := fun st sm hw => hs.trans hw
  cases m with
  | norm wt => exact ⟨H.1, hw _ _ H.2.1, H.2.2⟩
  | last L s => exact ⟨H.1, H.2.1, H.2.2.1, H.2.2.2.1, H.2.2.2.2.1, hw _ _ H.2.2.2.2.2⟩
  | sema => exact ⟨H.1, hw _ _ H.2⟩
  | fin => exact ⟨H.1, hw _ _ H.2⟩
theorem sm_same {n : Nat} {cn cn' : Nat → Nat} (h : ∀ i, i < n → X.wg i = b → cn' i = cn i) : sm X n cn' b = sm X n cn b := by
  unfold sm
  refine sumTo_congr fun i hi => ?_
  by_cases e : X.wg i = b
  · rw [if_pos e, if_pos e, h i hi e]
  · rw [if_neg e, if_neg e]
theorem sm_upd {n i x : Nat} {cn : Nat → Nat} (hi : i < n) (hb : X.wg i = b) : sm X n (upd cn i x) b + cn i = sm X n cn b + x := by
  unfold sm
  have h1 := sumTo_upd (fun i => if X.wg i = b then cn i else 0) x id hi
  have e : (fun k => if X.wg k = b then upd cn i x k else 0) = fun a => id (upd (fun i => if X.wg i = b then cn i else 0) i x a) := by
    funext k
    by_cases ek : k = i
    · subst ek; simp [upd_same, hb]
    · simp only [upd_ne _ _ ek, id]
  rw [e]
  simp only [id, hb, if_true] at h1 ⊢
  omega
theorem le_sm {n i : Nat} {cn : Nat → Nat} (hi : i < n) (hb : X.wg i = b) : cn i ≤ sm X n cn b := by
  unfold sm
  have := le_sumTo (f := fun i => if X.wg i = b then cn i else 0) hi
  simpa [hb] using this
/-- A group of which no member turns. -/
theorem MdOk.others {n n' h' : Nat} {m : Md} {B' : Nat → By} {cn' : Nat → Nat} (H : MdOk X h n B cn w b m) (hn : sm X n' cn' b = sm X n cn b) (hB : ∀ i, X.wg i = b → B' i = B i) (hc : ∀ i, X.wg i = b → cn' i = cn i) (hh : h' = h) : MdOk X h' n' B' cn' w b m := by
  subst hh
  cases m with
  | norm wt =>
    obtain ⟨a1, a2, a3, a4, a5⟩ := H
    refine ⟨a1, by rw [hn]; exact a2, fun e => ⟨by rw [hn]; exact (a3 e).1, fun e' => by rw [hc _ e']; exact (a3 e).2.1 e', fun i hi hb c z home => by rw [hB i hb]; exact (a3 e).2.2 i hi hb c z home⟩, fun i s hi hb e => ?_, fun i hi hb e => ?_⟩
    · rw [hB i hb] at e
      rw [hc i hb]
      exact a4 i s hi hb e
    · rw [hB i hb] at e
      rw [hc i hb]
      exact a5 i hi hb e
  | last L s =>
    obtain ⟨a1, a2, a3, a4, a5, a6⟩ := H
    exact ⟨a1, a2, by rw [hB L a2]; exact a3, a4, fun i hi hb hL => by rw [hB i hb]; exact a5 i hi hb hL, a6⟩
  | sema => exact ⟨fun i hi hb => by rw [hB i hb]; exact H.1 i hi hb, H.2⟩
  | fin => exact ⟨fun i hi hb => by rw [hB i hb]; exact H.1 i hi hb, H.2⟩
end
end Cw
end
end Go.Proofs.Ytggfcdhkgldbfaa
