/-
  PARTS of a claim, merged by segs.py: CwY2.
-/
import Derived.Test.YtggfcdhkgldbfaaDoorS19
namespace Go.Proofs.YtggfcdhkgldbfaaDoor
set_option linter.unusedSimpArgs false
set_option linter.unusedVariables false

/-! ### CwY2 -/
section
set_option linter.unusedSimpArgs false
open Go Go.Conc Go.RowKit Go.ConcR.Gen Cw
open Go.ConcN (sumTo upd upd_same upd_ne)

/-- What a worker leans on at its receive. -/
abbrev LeanK (r : Wk) (ev b1 b2 : Nat) (tv : Value) (k : Nat) : Addr → Value → Prop := Lean2 r.bw r.bt ev r.bi r.bs r.cr r.cp b1 b2 tv k
/-- .. and what its task leans on besides. -/
abbrev LeanX (r : Wk) (ev b1 b2 : Nat) (tv : Value) (k : Nat) (ex : Addr → Value → Prop) : Addr → Value → Prop := fun a v => LeanK r ev b1 b2 tv k a v ∨ ex a v
/-- The tasks of a run, as one system of transitions: Λ: where a task stands; M: the memory that they share; next: the task's next yield, or its end. -/
structure Tasks where
  Λ : Type
  M : Type
  tv : Nat → Value
  l0 : Nat → Λ
  At : Wk → Nat → Nat → Nat → Λ → Nat → Nat → (Addr → Value → Prop) → Goroutine → Prop
  Tm : M → World → Prop
  next : Nat → Λ → M → M × Option (ByteArray × Λ)
  rk : Nat → Λ → Nat
  Inv : (Nat → Bool) → (Nat → Λ) → M → Nat → Prop
/-- The state between two turns. -/
structure Sst (t : Tasks) where
  en : Nat → Bool
  loc : Nat → t.Λ
  m : t.M
  E : List (Int × ByteArray)
def Tasks.step (t : Tasks) (k : Nat) (s : Sst t) : Sst t :=
  if s.en k then s else match t.next k (s.loc k) s.m with
    | (m', some (x, l')) => ⟨s.en, upd s.loc k l', m', s.E ++ [((k : Int), x)]⟩
    | (m', none) => ⟨upd s.en k true, s.loc, m', s.E⟩
/-- What holds of every state that is reached. -/
def Tasks.InvS (t : Tasks) (s : Sst t) : Prop := t.Inv s.en s.loc s.m s.E.length
/-- Behind a turn. -/
def Tasks.Turned (t : Tasks) (X : Cx) (V : Nat → Prop) (B : Nat) (r : Wk) (wg ev k : Nat) (l : t.Λ) (m : t.M) (b1 b2 : Nat) (E : List (Int × ByteArray)) (Wr : World → Prop) (ex : Addr → Value → Prop) (g : Goroutine) (w : World) : Prop :=
  (∃ m' s l' cs u ex', t.next k l m = (m', some (s, l')) ∧ g = atY r.bs r.cp b1 b2 ev r.bi s cs ∧ t.At r wg ev k l' b1 b2 ex' (atR r.bs r.cr r.cp b1 b2 ev r.bi s cs) ∧ WB B (LeanX r ev b1 b2 (t.tv k) k ex') (fun w => Wr w ∧ t.Tm m' w) w ∧ (∀ a v, ex' a v → ex a v ∨ (Prot X w a ∧ ¬ X.Sh (.cell a) ∧ a.block ≠ ev)) ∧ Evs X V ev (E ++ [((k : Int), s)]) u w) ∨
  (∃ m' xv u, t.next k l m = (m', none) ∧ g = atX ev r.bi r.bs r.cr r.cp b1 b2 (t.tv k) xv [fr3 wg r.bw r.bt ev r.bi r.bs (t.tv k), bot] ∧ WB B (LeanX r ev b1 b2 (t.tv k) k ex) (fun w => Wr w ∧ t.Tm m' w) w ∧ Evs X V ev E u w)
structure TasksOk (t : Tasks) (N₀ : Nat) (Sh0 : Loc → Prop) : Prop where
  old : ∀ m, Old N₀ (t.Tm m)
  tvi : ∀ k, ∃ ty x, t.tv k = .iface ty x
  birth : ∀ r wg ev k b1 b2, t.At r wg ev k (t.l0 k) b1 b2 (fun _ _ => False) (at1 wg r.bw r.bt ev r.bi r.bs r.cr b1 b2 (t.tv k))
  rk : ∀ k l m m' s l', t.next k l m = (m', some (s, l')) → t.rk k l' < t.rk k l
  inv : ∀ (s : Sst t) (k : Nat), t.InvS s → t.InvS (t.step k s)
  turn : ∀ (X : Cx) (V : Nat → Prop) (B : Nat) (r : Wk) (wg ev k : Nat) (l : t.Λ) (m : t.M) (b1 b2 : Nat) (E : List (Int × ByteArray)) (u xv : Value) (Wr : World → Prop) (ex : Addr → Value → Prop) (w : World) (g : Goroutine), (∃ s : Sst t, t.InvS s ∧ s.en k = false ∧ s.loc k = l ∧ s.m = m ∧ s.E = E) → t.At r wg ev k l b1 b2 ex g →
    (∀ m, Fx X V B (LeanX r ev b1 b2 (t.tv k) k ex) ev (fun w => Wr w ∧ t.Tm m w)) → (∀ b, b < N₀ → Ok { X with Ex := fun _ => False, Sh := fun _ => False } V b) → (∀ w a v, a.block < N₀ → Wr w → Wr (w.setCell a v)) → (∀ a, X.Sh (.cell a) → Sh0 (.cell a) ∨ N₀ ≤ a.block) → (∀ b, b < N₀ → X.Ex b) → N₀ ≤ ev → (∀ a v, LeanX r ev b1 b2 (t.tv k) k ex a v → N₀ ≤ a.block) →
    (E.length + 1) * 1024 ≤ 140737488355328 → WB B (LeanX r ev b1 b2 (t.tv k) k ex) (fun w => Wr w ∧ t.Tm m w) w ∧ Evs X V ev E u w →
    ∃ N, Goes Tryd.prog false (Ext V) (HDq X) (t.Turned X V B r wg ev k l m b1 b2 E Wr ex) N (Go.Conc.served g xv) w
def Tasks.home (t : Tasks) (c : Rc) (r : Wk) (k : Nat) (l : t.Λ) : Hm := fun g L => ∃ b1 b2 ex, L = LeanX r c.ev b1 b2 (t.tv k) k ex ∧ t.At r c.wg c.ev k l b1 b2 ex g
/-- What the others are about; worker x apart. -/
def Bys (t : Tasks) (c : Rc) (s : Sst t) (x : Option Nat) (B : Nat → By) (cn : Nat → Nat) : Prop :=
  cn 0 = 0 ∧ (∀ j, 0 < j → (j < c.γ ∨ c.γ + c.ks.length ≤ j) → B j = .gone) ∧ ∀ (k : Nat) (r : Wk), c.ks[k]? = some r → x ≠ some k →
    (s.en k = false → B (c.γ + k) = .seat r.cr (.agg #[]) (t.home c r k (s.loc k)) ∧ cn (c.γ + k) = 1) ∧ (s.en k = true → B (c.γ + k) = .gone ∨ ∃ j, B (c.γ + k) = .dn j)
/-- Main holds, between two turns. -/
abbrev MS [Ref] (t : Tasks) (c : Rc) (s : Sst t) (K : Goroutine → Prop) : Machine → Trace → Prop :=
  Held Tryd.prog (c.X True) c.V 0 0 (c.γ + c.ks.length) (Bys t c s none) (fun g w => K g ∧ WI c t.tv s.en (t.Tm s.m) w ∧ ∃ u, Evs (c.X True) c.V c.ev s.E u w)

section
variable {t : Tasks} {c : Rc} {s : Sst t} {x : Option Nat} {B B' : Nat → By} {cn cn' : Nat → Nat} {h : Nat} {on : Prop} {w w' : World}
theorem Bys.later (hB : Bys t c s x B cn) (h0 : h = 0 ∨ ∃ a z hm, B 0 = .seat a z hm) (hl : Later h B cn B' cn') : Bys t c s x B' cn' := by
  obtain ⟨h1, h2, h3⟩ := hB
  refine ⟨?_, fun j hj hj' => ?_, fun k r hk hx => ⟨fun he => ?_, fun he => ?_⟩⟩
  · rw [hl.cn 0 ?_]
    · exact h1
    · rcases h0 with rfl | ⟨a, z, hm, h0⟩
      · exact .inl rfl
      · exact .inr fun j e => by rw [h0] at e; cases e
  · have e := h2 j hj hj'
    rcases hl.le j with e' | ⟨⟨_, e'⟩, _⟩
    · rw [e', e]
    · rw [e] at e'; cases e'
  · obtain ⟨e, e'⟩ := (h3 k r hk hx).1 he
    refine ⟨hl.seat.2 e, ?_⟩
    rw [hl.cn _ (.inr fun j ej => by rw [e] at ej; cases ej)]
    exact e'
  · rcases hl.le (c.γ + k) with e' | ⟨_, ⟨j, e'⟩ | e'⟩
    · rw [e']; exact (h3 k r hk hx).2 he
    · exact .inr ⟨j, e'⟩
    · exact .inl e'
theorem Rs.floor (S : Rs c) : Floor (c.X on) c.V c.B₀ := by
  have hlt := S.lt
  refine ⟨?_, ?_, fun _ => S.wg.2, ?_, ?_, fun b hb => Nat.lt_of_lt_of_le hb S.lt⟩
  · rintro a ⟨r, hr, rfl | rfl | rfl | rfl | rfl⟩ <;> exact (S.rng r hr _ (by simp [Wk.blocks])).2.1
  · rintro b ⟨r, hr, rfl | rfl⟩ <;> exact (S.rng r hr _ (by simp [Wk.blocks])).2.1
  · intro a ha
    rcases S.sh a ha with e | e
    · omega
    · rw [e]; exact S.wg.2
  · intro b hb
    have : b = c.wg := hb
    rw [this]; exact S.wg.2
theorem Rs.ok_of (S : Rs c) {b : Nat} (h1 : c.N₀ ≤ b) (h2 : b ≠ c.wg) (h3 : ∀ r ∈ c.ks, b ∉ r.blocks) : Ok (c.X on) c.V b := by
  refine ⟨h2, ?_, ?_, ?_, fun _ e => h2 e.symm, fun h => absurd h (by show ¬ b < c.N₀; omega)⟩
  · rintro a rfl ⟨r, hr, e⟩
    refine h3 r hr ?_
    rcases e with e | e | e | e | e <;> rw [e] <;> simp [Wk.blocks]
  · rintro a rfl ha
    rcases S.sh a ha with e | e
    · omega
    · exact h2 e
  · rintro ⟨r, hr, e⟩
    refine h3 r hr ?_
    rcases e with e | e <;> rw [e] <;> simp [Wk.blocks]
theorem Rs.okev (S : Rs c) : Ok (c.X on) c.V c.ev := S.ok_of S.ev.1 S.ev.2.2 fun r hr hm => (S.rng r hr _ hm).2.2.2.2 rfl
theorem Rs.nsh (S : Rs c) {b : Nat} (h1 : c.N₀ ≤ b) (h2 : b ≠ c.wg) {a : Addr} (ha : a.block = b) : ¬ (c.X on).Sh (.cell a) := fun h => by
  rcases S.sh a h with e | e <;> omega
theorem Evs.ext {X : Cx} {V : Nat → Prop} {ev : Nat} {E : List (Int × ByteArray)} {u : Value} (ok : Ok X V ev) (h : Evs X V ev E u w) (r : Ext V w w') : Evs X V ev E u w' :=
  ⟨(ok.same r (Array.getElem?_eq_some_iff.1 h.cell).1).trans h.cell, ownsRow_ext h.row r fun g hg => (h.ok g hg).nv, h.ok⟩
variable {tv : Nat → Value} {en : Nat → Bool} {Tm : World → Prop}
theorem WI.tm_mono {Tm' : World → Prop} (H : WI c tv en Tm w) (h : Tm' w) : WI c tv en Tm' w := ⟨H.wk, H.wb, h, H.size⟩
/-- A still cell's block holds no events; nor is it a box's of a kind that is not the workers'. -/
theorem WI.st_notEv (H : WI c tv en Tm w) {a : Addr} (ha : c.St a) : NotEv w a.block := by
  obtain ⟨r, hr, e⟩ := ha
  obtain ⟨k, hk⟩ := List.getElem?_of_mem hr
  have h := H.wk k r hk
  intro cs hc
  rcases e with rfl | rfl | rfl | rfl | rfl
  · rw [h.hbw] at hc; cases hc
  · rw [h.hbt] at hc; cases hc
  · rw [h.hbi] at hc; cases hc
  · rw [h.hbs] at hc; cases hc
  · rw [h.hbs] at hc; cases hc
theorem box_notEv {b : Nat} (hb : BoxAt (c.X on) w b) : NotEv w b := by
  obtain ⟨v, ty, hv, hbx, _⟩ := hb
  intro cs hc
  rw [hv] at hc
  cases hc
  rcases hbx with ⟨_, _, e | ⟨e, _⟩⟩ | e <;> cases e
theorem WI.prot_notEv (H : WI c tv en Tm w) {a : Addr} (hp : Prot (c.X on) w a) : NotEv w a.block := hp.elim H.st_notEv fun x => box_notEv x.2.2
theorem prot_ne_ev (S : Rs c) {E : List (Int × ByteArray)} {u : Value} (hE : Evs (c.X on) c.V c.ev E u w) {a : Addr} (hp : Prot (c.X on) w a) : a.block ≠ c.ev := by
  intro e
  rcases hp with h | ⟨_, _, h⟩
  · exact S.okev (on := on).st a e h
  · rw [e] at h
    exact ev_not_box hE.cell rfl h
theorem prot_ext {a : Addr} (hp : Prot (c.X on) w a) (hne : a.block ≠ c.wg) (r : Ext c.V w w') : Prot (c.X on) w' a := by
  rcases hp with h | ⟨h1, h2, v, ty, h3, h4⟩
  · exact .inl h
  · exact .inr ⟨h1, h2, v, ty, (r.same _ (Array.getElem?_eq_some_iff.1 h3).1 hne).trans h3, h4⟩
theorem prot_only {a : Addr} (hp : Prot (c.X on) w a) (hne : a.block ≠ c.ev) (r : OnlyEv (c.X on) c.ev w w') : Prot (c.X on) w' a := by
  rcases hp with h | ⟨h1, h2, h⟩
  · exact .inl h
  · have hn := box_notEv h
    obtain ⟨v, ty, h3, h4⟩ := h
    exact .inr ⟨h1, h2, v, ty, (r.same _ (Array.getElem?_eq_some_iff.1 h3).1 hne (.inl hn)).trans h3, h4⟩
/-- The second box of a worker's is a box. -/
theorem WI.b2 (H : WI c tv en Tm w) (htv : ∀ k, ∃ ty x, tv k = .iface ty x) {b ev bi : Nat} (hp : Prot (c.X on) w ⟨b, 0, none⟩) (hc : w.cell? ⟨b, 0, none⟩ = some (recF ev bi)) : BoxAt (c.X on) w b := by
  rcases hp with ⟨r, hr, e⟩ | ⟨_, _, h⟩
  · obtain ⟨k, hk⟩ := List.getElem?_of_mem hr
    have h := H.wk k r hk
    obtain ⟨ty, x, hx⟩ := htv k
    have e1 := h.hbw
    have e2 := h.hbt
    have e3 := h.hbi
    have e4 := h.hbs
    simp only [Addr.mk.injEq, and_true, reduceCtorEq, false_and, and_false, or_false, Nat.reduceEqDiff] at e
    rcases e with rfl | rfl | rfl | rfl
    · simp [World.cell?, e1, recF] at hc
    · simp [World.cell?, e2, recF, hx] at hc
    · simp [World.cell?, e3, recF] at hc
    · simp [World.cell?, e4, recF] at hc
  · exact h
/-- The flag of a worker's is written. -/
theorem WI.set (S : Rs c) (hO : Old c.N₀ Tm) (H : WI c tv en Tm w) {k : Nat} {r : Wk} (hk : c.ks[k]? = some r) (v : Bool) : WI c tv (upd en k v) Tm (w.setCell ⟨r.bs, 2, none⟩ (.bool v)) := by
  have h := H.wk k r hk
  have hb := h.hbs
  have hs := fun {b : Nat} (hb : b ≠ r.bs) => heap_setCell_ne w ⟨r.bs, 2, none⟩ (.bool v) hb
  have rg := S.rng r (mem_of_get hk) r.bs (by simp [Wk.blocks])
  obtain ⟨ws, h1, h2⟩ := H.wb
  refine ⟨fun k' r' hk' => ?_, ⟨ws, (hs (Ne.symm rg.2.2.2.1)).trans h1, h2⟩, hO w _ (fun b hb => hs (by omega)) H.tm, by rw [size_setCell']; exact H.size⟩
  have h' := H.wk k' r' hk'
  have ne : ∀ {b : Nat} {o : Obj}, w.heap[b]? = some o → o ≠ .cells #[.chan (some r.cr), .chan (some r.cp), .bool (en k)] 67 (0, 0) → b ≠ r.bs := fun hb' hne e => by rw [e, hb] at hb'; exact hne (Option.some.inj hb').symm
  obtain ⟨j, hj⟩ := h'.hcr
  obtain ⟨i, hi⟩ := h'.hcp
  refine ⟨(hs (ne h'.hbw (by simp))).trans h'.hbw, (hs (ne h'.hbt (by simp))).trans h'.hbt, (hs (ne h'.hbi (by simp))).trans h'.hbi, ?_, ⟨j, (hs (ne hj (by simp))).trans hj⟩, ⟨i, (hs (ne hi (by simp))).trans hi⟩⟩
  by_cases e : k' = k
  · subst e
    rw [hk] at hk'
    obtain rfl := Option.some.inj hk'
    rw [upd_same]
    simp [World.setCell, Array.getElem?_modify, hb]
  · rw [upd_ne _ _ e, hs (S.inj k' k r' r hk' hk e).1]
    exact h'.hbs
theorem WI.set_hd (S : Rs c) (H : WI c tv en Tm w) {k : Nat} {r : Wk} (hk : c.ks[k]? = some r) (v : Bool) {es : Array Event} (hes : ∀ e ∈ es, e = ⟨.cell ⟨r.bs, 2, none⟩, true, false⟩) : HDq (c.X on) w (w.setCell ⟨r.bs, 2, none⟩ (.bool v)) es := by
  have h := H.wk k r hk
  have hb := h.hbs
  have rg := S.rng r (mem_of_get hk) r.bs (by simp [Wk.blocks])
  refine hdq_write ?_ ?_ ?_ (fun _ e => rg.2.2.1 e.symm) (S.nsh rg.1 rg.2.2.1 rfl) (Array.getElem?_eq_some_iff.1 hb).1 ?_ hes
  · rintro ⟨r', _, e⟩
    simp at e
  · rintro ⟨v, ty, hv, hbx, _⟩
    rw [hb] at hv
    cases hv
    rcases hbx with ⟨_, _, e | ⟨e, _⟩⟩ | e <;> cases e
  · rintro b ⟨r', hr', e⟩ e'
    simp only at e'
    obtain ⟨k', hk'⟩ := List.getElem?_of_mem hr'
    have h' := H.wk k' r' hk'
    obtain ⟨j, hj⟩ := h'.hcr
    obtain ⟨i, hi⟩ := h'.hcp
    rcases e with rfl | rfl
    · rw [e', hb] at hj; cases hj
    · rw [e', hb] at hi; cases hi
  · intro a ha
    by_cases e : a.block = r.bs
    · have hn : (w.setCell ⟨r.bs, 2, none⟩ (.bool v)).heap[r.bs]? = some (.cells #[.chan (some r.cr), .chan (some r.cp), .bool v] 67 (0, 0)) := by simp [World.setCell, Array.getElem?_modify, hb]
      obtain ⟨r', hr', e'⟩ := ha
      rcases e' with rfl | rfl | rfl | rfl | rfl <;> simp only at e <;> simp [World.cell?, e, hn, hb]
    · exact cell_of_block (heap_setCell_ne w _ _ e)
theorem Evs.set (S : Rs c) {E : List (Int × ByteArray)} {u : Value} (hE : Evs (c.X on) c.V c.ev E u w) {r : Wk} (hr : r ∈ c.ks) (v : Value) : Evs (c.X on) c.V c.ev E u (w.setCell ⟨r.bs, 2, none⟩ v) := by
  have hs := fun {b : Nat} (hb : b ≠ r.bs) => heap_setCell_ne w ⟨r.bs, 2, none⟩ v hb
  have rg := S.rng r hr r.bs (by simp [Wk.blocks])
  refine ⟨(hs (Ne.symm rg.2.2.2.2)).trans hE.cell, ⟨hE.row.1, ?_⟩, hE.ok⟩
  rcases hE.row.2 with hn | ⟨g, cap, cur, rfl, hb, hgg, rest⟩
  · exact .inl hn
  · exact .inr ⟨g, cap, cur, rfl, hb, (hs fun e => (hE.ok g rfl).st ⟨r.bs, 0, none⟩ e.symm ⟨r, hr, .inr (.inr (.inr (.inl rfl)))⟩).trans hgg, rest⟩
end
end
end Go.Proofs.YtggfcdhkgldbfaaDoor
