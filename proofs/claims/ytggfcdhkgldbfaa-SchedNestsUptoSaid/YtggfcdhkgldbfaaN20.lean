/-
  PARTS of a claim, merged by segs.py: NwY2.
-/
import Derived.Test.YtggfcdhkgldbfaaN19
namespace Go.Proofs.Ytggfcdhkgldbfaa
set_option linter.unusedSimpArgs false
set_option linter.unusedVariables false

/-! ### NwY2 -/
section
set_option linter.unusedSimpArgs false
open Go Go.Conc Go.RowKit Go.ConcR.Gen Cw
open Go.ConcN (sumTo upd upd_same upd_ne)

/-- What a worker leans on at its receive. -/
abbrev LeanK (r : Wk) (ev b1 b2 : Nat) (tv : Value) (k : Nat) : Addr → Value → Prop := Lean2 r.bw r.bt ev r.bi r.bs r.cr r.cp b1 b2 tv k
/-- .. and what its task leans on besides. -/
abbrev LeanX (r : Wk) (ev b1 b2 : Nat) (tv : Value) (k : Nat) (ex : Addr → Value → Prop) : Addr → Value → Prop := fun a v => LeanK r ev b1 b2 tv k a v ∨ ex a v
/-- The tasks of a run, as one system of transitions: Λ: where a task stands; M: the memory that they share; next: the task's next yield, or its end. -/
structure Tasks where
  Λ : Type
  M : Type
  tv : Nat → Value
  l0 : Nat → Λ
  At : Wk → Nat → Nat → Nat → Λ → Nat → Nat → (Addr → Value → Prop) → Goroutine → Prop
  Tm : M → World → Prop
  next : Nat → Λ → M → M × Option (ByteArray × Λ)
  rk : Nat → Λ → Nat
  Inv : (Nat → Bool) → (Nat → Λ) → M → Nat → Prop
/-- The state between two turns. -/
structure Sst (t : Tasks) where
  en : Nat → Bool
  loc : Nat → t.Λ
  m : t.M
  E : List (Int × ByteArray)
def Tasks.step (t : Tasks) (k : Nat) (s : Sst t) : Sst t :=
  if s.en k then s else match t.next k (s.loc k) s.m with
    | (m', some (x, l')) => ⟨s.en, upd s.loc k l', m', s.E ++ [((k : Int), x)]⟩
    | (m', none) => ⟨upd s.en k true, s.loc, m', s.E⟩
/-- What holds of every state that is reached. -/
def Tasks.InvS (t : Tasks) (s : Sst t) : Prop := t.Inv s.en s.loc s.m s.E.length
/-- Behind a turn. -/
def Tasks.Turned (t : Tasks) (X : Cx) (V : Nat → Prop) (B : Nat) (r : Wk) (wg ev k : Nat) (l : t.Λ) (m : t.M) (b1 b2 : Nat) (E : List (Int × ByteArray)) (Wr : World → Prop) (ex : Addr → Value → Prop) (g : Goroutine) (w : World) : Prop :=
  (∃ m' s l' cs u ex', t.next k l m = (m', some (s, l')) ∧ g = atY r.bs r.cp b1 b2 ev r.bi s cs ∧ t.At r wg ev k l' b1 b2 ex' (atR r.bs r.cr r.cp b1 b2 ev r.bi s cs) ∧ WB X B (LeanX r ev b1 b2 (t.tv k) k ex') (fun w => Wr w ∧ t.Tm m' w) w ∧ (∀ a v, ex' a v → ex a v ∨ (Prot X w a ∧ ¬ X.Sh (.cell a) ∧ a.block ≠ ev ∧ NotFn v)) ∧ Evs X V ev (E ++ [((k : Int), s)]) u w) ∨
  (∃ m' xv u, t.next k l m = (m', none) ∧ g = atX ev r.bi r.bs r.cr r.cp b1 b2 (t.tv k) xv [fr3 wg r.bw r.bt ev r.bi r.bs (t.tv k), bot] ∧ WB X B (LeanX r ev b1 b2 (t.tv k) k ex) (fun w => Wr w ∧ t.Tm m' w) w ∧ Evs X V ev E u w)
structure TasksOk (t : Tasks) (N₀ : Nat) (FV : Nat → Prop) : Prop where
  old : ∀ m, Old N₀ FV (t.Tm m)
  tvi : ∀ k, ∃ ty x, t.tv k = .iface ty x
  birth : ∀ r wg ev k b1 b2, t.At r wg ev k (t.l0 k) b1 b2 (fun _ _ => False) (at1 wg r.bw r.bt ev r.bi r.bs r.cr b1 b2 (t.tv k))
  rk : ∀ k l m m' s l', t.next k l m = (m', some (s, l')) → t.rk k l' < t.rk k l
  inv : ∀ (s : Sst t) (k : Nat), t.InvS s → t.InvS (t.step k s)
/-- Task k's turn is a walk. -/
def Tasks.WalkOk (t : Tasks) (N₀ : Nat) (Sh0 : Loc → Prop) (k : Nat) : Prop :=
  ∀ (X : Cx) (V : Nat → Prop) (B : Nat) (r : Wk) (wg ev : Nat) (l : t.Λ) (m : t.M) (b1 b2 : Nat) (E : List (Int × ByteArray)) (u xv : Value) (Wr : World → Prop) (ex : Addr → Value → Prop) (w : World) (g : Goroutine), (∃ s : Sst t, t.InvS s ∧ s.en k = false ∧ s.loc k = l ∧ s.m = m ∧ s.E = E) → t.At r wg ev k l b1 b2 ex g →
    (∀ m, Fx X V B (LeanX r ev b1 b2 (t.tv k) k ex) ev (fun w => Wr w ∧ t.Tm m w)) → (∀ a, X.Sh (.cell a) → Sh0 (.cell a) ∨ N₀ ≤ a.block) → (∀ b, b < N₀ → X.Lo b) → N₀ ≤ ev →
    (E.length + 1) * 1024 ≤ 140737488355328 → WB X B (LeanX r ev b1 b2 (t.tv k) k ex) (fun w => Wr w ∧ t.Tm m w) w ∧ Evs X V ev E u w →
    ∃ N, Goes Try.prog false (Ext V) (HDq X) (t.Turned X V B r wg ev k l m b1 b2 E Wr ex) N (Go.Conc.served g xv) w
def Tasks.home (t : Tasks) (c : Rc) (r : Wk) (k : Nat) (l : t.Λ) : Hm := fun g L => ∃ b1 b2 ex, L = LeanX r c.ev b1 b2 (t.tv k) k ex ∧ t.At r c.wg c.ev k l b1 b2 ex g
/-- What the others are about; worker x apart. -/
def Bys (t : Tasks) (c : Rc) (s : Sst t) (x : Option Nat) (B : Nat → By) (cn : Nat → Nat) : Prop :=
  c.FB B cn ∧ (∀ j, c.γ + c.ks.length ≤ j → B j = .gone) ∧ ∀ (k : Nat) (r : Wk), c.ks[k]? = some r → x ≠ some k →
    (s.en k = false → B (c.γ + k) = .seat r.cr (.agg #[]) (t.home c r k (s.loc k)) ∧ cn (c.γ + k) = 1) ∧ (s.en k = true → B (c.γ + k) = .gone ∨ ∃ j, B (c.γ + k) = .dn j)
/-- Main holds, between two turns. -/
abbrev MS [Ref] (t : Tasks) (c : Rc) (s : Sst t) (K : Goroutine → Prop) : Machine → Trace → Prop :=
  Held Try.prog (c.X True) c.V c.h 0 c.n (Bys t c s none) (fun g w => K g ∧ WI c t.tv s.en (t.Tm s.m) w ∧ ∃ u, Evs (c.X True) c.V c.ev s.E u w)

section
variable {t : Tasks} {c : Rc} {s : Sst t} {x : Option Nat} {B B' : Nat → By} {cn cn' : Nat → Nat} {h : Nat} {on : Prop} {w w' : World}
theorem Bys.later (S : Rs c) (hB : Bys t c s x B cn) (h0 : h = c.h ∨ (c.γ ≤ h ∧ ∃ a z hm, B c.h = .seat a z hm)) (hl : Later h B cn B' cn') : Bys t c s x B' cn' := by
  obtain ⟨h1, h2, h3⟩ := hB
  refine ⟨S.fb.st h B cn B' cn' h0 h1 hl, fun j hj' => ?_, fun k r hk hx => ⟨fun he => ?_, fun he => ?_⟩⟩
  · have e := h2 j hj'
    rcases hl.le j with e' | ⟨⟨_, e'⟩, _⟩
    · rw [e', e]
    · rw [e] at e'; cases e'
  · obtain ⟨e, e'⟩ := (h3 k r hk hx).1 he
    refine ⟨hl.seat.2 e, ?_⟩
    rw [hl.cn _ (.inr fun j ej => by rw [e] at ej; cases ej)]
    exact e'
  · rcases hl.le (c.γ + k) with e' | ⟨_, ⟨j, e'⟩ | e'⟩
    · rw [e']; exact (h3 k r hk hx).2 he
    · exact .inr ⟨j, e'⟩
    · exact .inl e'
theorem Rs.fr_lt (S : Rs c) {b : Nat} (h : c.Fr b) : b < c.B₀ := by
  have := S.lt
  rcases h with h | h <;> omega
theorem Rs.floor (S : Rs c) : Floor (c.X on) c.V c.B₀ := by
  have hlt := S.lt
  have h10 := S.b10
  have hwg := S.wg
  refine ⟨?_, ?_, ?_, ?_, ?_, fun b hb => Nat.lt_of_lt_of_le hb S.lt⟩
  · rintro a (⟨r, hr, rfl | rfl | rfl | rfl | rfl⟩ | h)
    · have := (S.rng r hr r.bw (by simp [Wk.blocks])).2.1; simp only; omega
    · have := (S.rng r hr r.bt (by simp [Wk.blocks])).2.1; simp only; omega
    · have := (S.rng r hr r.bi (by simp [Wk.blocks])).2.1; simp only; omega
    · have := (S.rng r hr r.bs (by simp [Wk.blocks])).2.1; simp only; omega
    · have := (S.rng r hr r.bs (by simp [Wk.blocks])).2.1; simp only; omega
    · exact S.fr_lt (S.fst a h)
  · rintro b (⟨r, hr, rfl | rfl⟩ | h)
    · have := (S.rng r hr r.cr (by simp [Wk.blocks])).2.1; omega
    · have := (S.rng r hr r.cp (by simp [Wk.blocks])).2.1; omega
    · exact S.fr_lt (S.fch b h).1
  · rintro b (h | ⟨_, rfl⟩)
    · have := S.fon b h; omega
    · omega
  · intro a ha
    rcases S.sh a ha with e | e
    · exact S.fr_lt e
    · rw [e]; omega
  · rintro b (rfl | h)
    · omega
    · have := S.fv b h; omega
theorem Rs.ok_of (S : Rs c) {b : Nat} (h1 : c.N₀ ≤ b) (hb : b < c.B₁) (h2 : b ≠ c.wg) (h3 : ∀ r ∈ c.ks, b ∉ r.blocks) : Ok (c.X on) c.V b := by
  refine ⟨S.nv h1 h2, ?_, ?_, ?_, ?_, fun h => absurd h (by show ¬ b < c.N₀; omega)⟩
  · rintro a rfl (⟨r, hr, e⟩ | h)
    · refine h3 r hr ?_
      rcases e with e | e | e | e | e <;> rw [e] <;> simp [Wk.blocks]
    · exact S.nfr h1 hb (S.fst a h)
  · rintro a rfl ha
    rcases S.sh a ha with e | e
    · exact S.nfr h1 hb e
    · exact h2 e
  · rintro (⟨r, hr, e⟩ | h)
    · refine h3 r hr ?_
      rcases e with e | e <;> rw [e] <;> simp [Wk.blocks]
    · exact S.nfr h1 hb (S.fch b h).1
  · rintro x (h | ⟨_, rfl⟩) e
    · have := S.fon x h; omega
    · exact h2 e.symm
theorem Rs.okev (S : Rs c) : Ok (c.X on) c.V c.ev := S.ok_of S.ev.1 S.ev.2.1 S.ev.2.2 fun r hr hm => (S.rng r hr _ hm).2.2.2.2 rfl
theorem Rs.nsh (S : Rs c) {b : Nat} (h1 : c.N₀ ≤ b) (hb : b < c.B₁) (h2 : b ≠ c.wg) {a : Addr} (ha : a.block = b) : ¬ (c.X on).Sh (.cell a) := fun h => by
  subst ha
  exact (S.sh a h).elim (S.nfr h1 hb) h2
theorem Evs.ext {X : Cx} {V : Nat → Prop} {ev : Nat} {E : List (Int × ByteArray)} {u : Value} (ok : Ok X V ev) (h : Evs X V ev E u w) (r : Ext V w w') : Evs X V ev E u w' :=
  ⟨(ok.same r (Array.getElem?_eq_some_iff.1 h.cell).1).trans h.cell, ownsRow_ext h.row r fun g hg => (h.ok g hg).nv, h.ok⟩
variable {tv : Nat → Value} {en : Nat → Bool} {Tm : World → Prop}
theorem WI.tm_mono {Tm' : World → Prop} (H : WI c tv en Tm w) (h : Tm' w) : WI c tv en Tm' w := ⟨H.wk, H.wb, h, H.size, H.shg⟩
/-- A still cell's block holds no events, or it is still; nor is it a box's of a kind that is not the workers'. -/
theorem box_notEv {b : Nat} (hb : BoxAt (c.X on) w b) : NotEv w b := by
  obtain ⟨v, ty, hv, hbx, _⟩ := hb
  intro cs hc
  rw [hv] at hc
  cases hc
  rcases hbx with ⟨_, _, e | ⟨e, _⟩⟩ | e <;> cases e
theorem prot_notEv {a : Addr} (hp : Prot (c.X on) w a) : NotEv w a.block ∨ (c.X on).St a := hp.elim .inr fun x => .inl (box_notEv x.2.2)
theorem prot_ne_ev (S : Rs c) {E : List (Int × ByteArray)} {u : Value} (hE : Evs (c.X on) c.V c.ev E u w) {a : Addr} (hp : Prot (c.X on) w a) : a.block ≠ c.ev := by
  intro e
  rcases hp with h | ⟨_, _, h⟩
  · exact S.okev (on := on).st a e h
  · rw [e] at h
    exact ev_not_box hE.cell rfl h
theorem prot_ext {a : Addr} (hp : Prot (c.X on) w a) (hne : ¬ c.V a.block) (r : Ext c.V w w') : Prot (c.X on) w' a := by
  rcases hp with h | ⟨h1, h2, v, ty, h3, h4⟩
  · exact .inl h
  · exact .inr ⟨h1, h2, v, ty, (r.same _ (Array.getElem?_eq_some_iff.1 h3).1 hne).trans h3, h4⟩
theorem prot_only {a : Addr} (hp : Prot (c.X on) w a) (hne : a.block ≠ c.ev) (r : OnlyEv (c.X on) c.ev w w') : Prot (c.X on) w' a := by
  rcases hp with h | ⟨h1, h2, h⟩
  · exact .inl h
  · have hn := box_notEv h
    obtain ⟨v, ty, h3, h4⟩ := h
    exact .inr ⟨h1, h2, v, ty, (r.same _ (Array.getElem?_eq_some_iff.1 h3).1 hne (.inl hn)).trans h3, h4⟩
/-- The flag of a worker's is written. -/
theorem WI.set (S : Rs c) (hO : Old c.N₀ c.FV Tm) (H : WI c tv en Tm w) {k : Nat} {r : Wk} (hk : c.ks[k]? = some r) (v : Bool) : WI c tv (upd en k v) Tm (w.setCell ⟨r.bs, 2, none⟩ (.bool v)) := by
  have h := H.wk k r hk
  have hb := h.hbs
  have hs := fun {b : Nat} (hb : b ≠ r.bs) => heap_setCell_ne w ⟨r.bs, 2, none⟩ (.bool v) hb
  have rg := S.rng r (mem_of_get hk) r.bs (by simp [Wk.blocks])
  obtain ⟨ws, h1, h2⟩ := H.wb
  refine ⟨fun k' r' hk' => ?_, ⟨ws, (hs (Ne.symm rg.2.2.2.1)).trans h1, h2⟩, hO w _ (fun b hb _ => hs (by omega)) H.tm, by rw [size_setCell']; exact H.size, shg_to H.shg fun b st sm _ hn hg h => hs fun e => by rw [Go.ConcR.WgAt, e, hb] at h; cases h⟩
  have h' := H.wk k' r' hk'
  have ne : ∀ {b : Nat} {o : Obj}, w.heap[b]? = some o → o ≠ .cells #[.chan (some r.cr), .chan (some r.cp), .bool (en k)] 71 (0, 0) → b ≠ r.bs := fun hb' hne e => by rw [e, hb] at hb'; exact hne (Option.some.inj hb').symm
  obtain ⟨j, hj⟩ := h'.hcr
  obtain ⟨i, hi⟩ := h'.hcp
  refine ⟨(hs (ne h'.hbw (by simp))).trans h'.hbw, (hs (ne h'.hbt (by simp))).trans h'.hbt, (hs (ne h'.hbi (by simp))).trans h'.hbi, ?_, ⟨j, (hs (ne hj (by simp))).trans hj⟩, ⟨i, (hs (ne hi (by simp))).trans hi⟩⟩
  by_cases e : k' = k
  · subst e
    rw [hk] at hk'
    obtain rfl := Option.some.inj hk'
    rw [upd_same]
    simp [World.setCell, Array.getElem?_modify, hb]
  · rw [upd_ne _ _ e, hs (S.inj k' k r' r hk' hk e).1]
    exact h'.hbs
theorem WI.set_hd (S : Rs c) (H : WI c tv en Tm w) {k : Nat} {r : Wk} (hk : c.ks[k]? = some r) (v : Bool) {es : Array Event} (hes : ∀ e ∈ es, e = ⟨.cell ⟨r.bs, 2, none⟩, true, false⟩) : HDq (c.X on) w (w.setCell ⟨r.bs, 2, none⟩ (.bool v)) es := by
  have h := H.wk k r hk
  have hb := h.hbs
  have rg := S.rng r (mem_of_get hk) r.bs (by simp [Wk.blocks])
  refine hdq_write ?_ ?_ ?_ ?_ (S.nsh rg.1 rg.2.1 rg.2.2.1 rfl) (Array.getElem?_eq_some_iff.1 hb).1 ?_ hes
  · rintro (⟨r', _, e⟩ | h)
    · simp at e
    · exact S.nfr rg.1 rg.2.1 (S.fst _ h)
  · rintro ⟨v, ty, hv, hbx, _⟩
    rw [hb] at hv
    cases hv
    rcases hbx with ⟨_, _, e | ⟨e, _⟩⟩ | e <;> cases e
  · rintro b (⟨r', hr', e⟩ | hf) e'
    rotate_left
    · exact S.nfr rg.1 rg.2.1 (by rw [← (show b = r.bs from e')]; exact (S.fch b hf).1)
    simp only at e'
    obtain ⟨k', hk'⟩ := List.getElem?_of_mem hr'
    have h' := H.wk k' r' hk'
    obtain ⟨j, hj⟩ := h'.hcr
    obtain ⟨i, hi⟩ := h'.hcp
    rcases e with rfl | rfl
    · rw [e', hb] at hj; cases hj
    · rw [e', hb] at hi; cases hi
  · rintro b (h | ⟨_, rfl⟩) e
    · have := S.fon b h; simp only at e; omega
    · exact rg.2.2.1 e.symm
  · intro a ha
    by_cases e : a.block = r.bs
    · have hn : (w.setCell ⟨r.bs, 2, none⟩ (.bool v)).heap[r.bs]? = some (.cells #[.chan (some r.cr), .chan (some r.cp), .bool v] 71 (0, 0)) := by simp [World.setCell, Array.getElem?_modify, hb]
      rcases ha with ⟨r', hr', e'⟩ | hf
      · rcases e' with rfl | rfl | rfl | rfl | rfl <;> simp only at e <;> simp [World.cell?, e, hn, hb]
      · exact absurd (S.fst a hf) (by rw [e]; exact S.nfr rg.1 rg.2.1)
    · exact cell_of_block (heap_setCell_ne w _ _ e)
theorem Evs.set (S : Rs c) {E : List (Int × ByteArray)} {u : Value} (hE : Evs (c.X on) c.V c.ev E u w) {r : Wk} (hr : r ∈ c.ks) (v : Value) : Evs (c.X on) c.V c.ev E u (w.setCell ⟨r.bs, 2, none⟩ v) := by
  have hs := fun {b : Nat} (hb : b ≠ r.bs) => heap_setCell_ne w ⟨r.bs, 2, none⟩ v hb
  have rg := S.rng r hr r.bs (by simp [Wk.blocks])
  refine ⟨(hs (Ne.symm rg.2.2.2.2)).trans hE.cell, ⟨hE.row.1, ?_⟩, hE.ok⟩
  rcases hE.row.2 with hn | ⟨g, cap, cur, rfl, hb, hgg, rest⟩
  · exact .inl hn
  · exact .inr ⟨g, cap, cur, rfl, hb, (hs fun e => (hE.ok g rfl).st ⟨r.bs, 0, none⟩ e.symm (.inl ⟨r, hr, .inr (.inr (.inr (.inl rfl)))⟩)).trans hgg, rest⟩
end
end
end Go.Proofs.Ytggfcdhkgldbfaa
