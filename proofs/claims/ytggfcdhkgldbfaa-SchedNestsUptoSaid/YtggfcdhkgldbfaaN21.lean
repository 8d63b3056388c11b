/-
  PARTS of a claim, merged by segs.py: NwY3.
-/
import Derived.Test.YtggfcdhkgldbfaaN20
namespace Go.Proofs.Ytggfcdhkgldbfaa
set_option linter.unusedSimpArgs false
set_option linter.unusedVariables false

/-! ### NwY3 -/
section
set_option linter.unusedSimpArgs false
open Go Go.Conc Go.RowKit Go.ConcR.Gen Cw
open Go.ConcN (sumTo upd upd_same upd_ne)

section
variable {t : Tasks} {c : Rc} {s : Sst t}
abbrev QM (t : Tasks) (c : Rc) (en : Nat → Bool) (m : t.M) (E : List (Int × ByteArray)) (w : World) : Prop := WI c t.tv en (t.Tm m) w ∧ ∃ u, Evs (c.X True) c.V c.ev E u w
theorem qm_rl (S : Rs c) (O : TasksOk t c.N₀ c.FV) {en : Nat → Bool} {m : t.M} {E : List (Int × ByteArray)} (w w' : World) (h : QM t c en m E w) (r : Ext c.V w w') : QM t c en m E w' :=
  ⟨h.1.ext S (O.old m) r, h.2.imp fun _ hu => hu.ext S.okev r⟩
theorem qm_chan (O : TasksOk t c.N₀ c.FV) {en : Nat → Bool} {m : t.M} {E : List (Int × ByteArray)} {w : World} (h : QM t c en m E w) {x j : Nat} (hx : c.N₀ ≤ x) (hc : w.heap[x]? = some (.chan 0 #[] false j j false)) (i : Nat) : QM t c en m E (w.setChan x 0 #[] false i i false) :=
  ⟨h.1.chan (O.old m) hx hc i, h.2.imp fun _ hu => hu.chan hc i⟩
theorem Bys.no_cp (S : Rs c) {B : Nat → By} {cn : Nat → Nat} {x : Option Nat} (hB : Bys t c s x B cn) {k : Nat} {r : Wk} (hk : c.ks[k]? = some r) (hx : ∀ k', x = some k' → ∀ z home, B (c.γ + k') ≠ .seat r.cp z home) : ∀ i z home, i ≠ c.h → B i ≠ .seat r.cp z home := by
  intro i z home hi e
  by_cases h0 : i < c.γ
  · have h1 := S.fb.ch B cn i r.cp z home hB.1 h0 hi e
    have h2 := (S.rng r (mem_of_get hk) r.cp (by simp [Wk.blocks])).1
    omega
  by_cases h1 : c.γ + c.ks.length ≤ i
  · rw [hB.2.1 i h1] at e; cases e
  · obtain ⟨k', rfl⟩ : ∃ k', i = c.γ + k' := ⟨i - c.γ, by omega⟩
    obtain ⟨r', hk'⟩ : ∃ r', c.ks[k']? = some r' := ⟨_, List.getElem?_eq_getElem (show k' < c.ks.length by omega)⟩
    by_cases hxk : x = some k'
    · exact hx k' hxk z home e
    · cases he : s.en k' with
      | false =>
        rw [((hB.2.2 k' r' hk' hxk).1 he).1] at e
        injection e with e1
        by_cases hkk : k' = k
        · subst hkk
          rw [hk] at hk'
          obtain rfl := Option.some.inj hk'
          exact S.ne r (mem_of_get hk) e1
        · exact (S.inj k' k r' r hk' hk hkk).2.2.1 e1
      | true =>
        rcases (hB.2.2 k' r' hk' hxk).2 he with e' | ⟨j, e'⟩ <;> rw [e'] at e <;> cases e
theorem Bys.no_cr (S : Rs c) {B : Nat → By} {cn : Nat → Nat} {k : Nat} {r : Wk} (hB : Bys t c s (some k) B cn) (hk : c.ks[k]? = some r) {z0 : Value} {hm : Hm} (h0 : B c.h = .seat r.cp z0 hm) : ∀ i z home, i ≠ c.γ + k → B i ≠ .seat r.cr z home := by
  intro i z home hi e
  by_cases hi0 : i = c.h
  · subst hi0
    rw [h0] at e
    injection e with e1
    exact S.ne r (mem_of_get hk) e1.symm
  by_cases h0 : i < c.γ
  · have h1 := S.fb.ch B cn i r.cr z home hB.1 h0 hi0 e
    have h2 := (S.rng r (mem_of_get hk) r.cr (by simp [Wk.blocks])).1
    omega
  by_cases h1 : c.γ + c.ks.length ≤ i
  · rw [hB.2.1 i h1] at e; cases e
  · obtain ⟨k', rfl⟩ : ∃ k', i = c.γ + k' := ⟨i - c.γ, by omega⟩
    obtain ⟨r', hk'⟩ : ∃ r', c.ks[k']? = some r' := ⟨_, List.getElem?_eq_getElem (show k' < c.ks.length by omega)⟩
    have hkk : k' ≠ k := fun e => hi (by rw [e])
    have hxk : (some k : Option Nat) ≠ some k' := fun e => hkk (Option.some.inj e).symm
    cases he : s.en k' with
    | false =>
      rw [((hB.2.2 k' r' hk' hxk).1 he).1] at e
      injection e with e1
      exact (S.inj k' k r' r hk' hk hkk).2.1 e1
    | true =>
      rcases (hB.2.2 k' r' hk' hxk).2 he with e' | ⟨j, e'⟩ <;> rw [e'] at e <;> cases e

/-- Main's seat in step. -/
def homeM (r : Wk) (cs : List Frame) : Hm := fun g L => g = atSr r.bs r.cr r.cp cs ∧ L = fun a v => a = ⟨r.bs, 1, none⟩ ∧ v = .chan (some r.cp)
/-- The token is with worker k. -/
def WS [Ref] (t : Tasks) (c : Rc) (s : Sst t) (k : Nat) (r : Wk) (cs : List Frame) (K : Goroutine → World → Prop) : Machine → Trace → Prop :=
  Held Try.prog (c.X True) c.V (c.γ + k) 0 c.n (fun B cn => Bys t c s (some k) B cn ∧ B c.h = .seat r.cp (.bool false) (homeM r cs) ∧ cn (c.γ + k) = 1) K
abbrev WrW (t : Tasks) (c : Rc) (en : Nat → Bool) (L : Addr → Value → Prop) (w : World) : Prop := WI c t.tv en (fun _ => True) w ∧ ∀ a v, L a v → Prot (c.X True) w a ∧ (¬ NotFn v → BoxAt (c.X True) w a.block)
theorem ws_stb (S : Rs c) {k : Nat} {r : Wk} {cs : List Frame} : Stb (c.γ + k) (fun B cn => Bys t c s (some k) B cn ∧ B c.h = .seat r.cp (.bool false) (homeM r cs) ∧ cn (c.γ + k) = 1) :=
  fun _ _ _ _ hB hl => ⟨hB.1.later S (.inr ⟨by omega, _, _, _, hB.2.1⟩) hl, hl.seat.2 hB.2.1, (hl.cn _ (.inl rfl)).trans hB.2.2⟩
theorem ms_stb (S : Rs c) : Stb c.h (Bys t c s none) := fun _ _ _ _ hB hl => hB.later S (.inl rfl) hl

/-- What is fixed for a worker. -/
theorem fx_of (S : Rs c) (O : TasksOk t c.N₀ c.FV) {en : Nat → Bool} {L : Addr → Value → Prop} (hn : ∀ a v, L a v → ¬ c.Sh (.cell a) ∧ a.block ≠ c.ev) (m : t.M) : Fx (c.X True) c.V c.B₀ L c.ev (fun w => WrW t c en L w ∧ t.Tm m w) := by
  have hT : Old c.N₀ c.FV (fun _ => True) := fun _ _ _ x => x
  have hg : ∀ a v, L a v → ¬ c.V a.block := fun a v hav e => (hn a v hav).1 (S.shw a e)
  have hbe : ∀ {w w' : World} {b : Nat}, BoxAt (c.X True) w b → ¬ c.V b → Ext c.V w w' → BoxAt (c.X True) w' b := fun ⟨v, ty, h3, h4⟩ hv r => ⟨v, ty, (r.same _ (Array.getElem?_eq_some_iff.1 h3).1 hv).trans h3, h4⟩
  have hbo : ∀ {w w' : World} {b : Nat}, BoxAt (c.X True) w b → b ≠ c.ev → OnlyEv (c.X True) c.ev w w' → BoxAt (c.X True) w' b := fun h hv r => by
    have hn := box_notEv h
    obtain ⟨v, ty, h3, h4⟩ := h
    exact ⟨v, ty, (r.same _ (Array.getElem?_eq_some_iff.1 h3).1 hv (.inl hn)).trans h3, h4⟩
  have h10 := S.b10
  have sev := S.ev
  refine ⟨S.floor, rfl, S.okev, by omega, fun a v hav => ⟨hg a v hav, (hn a v hav).1, (hn a v hav).2⟩, fun w w' r h => ⟨⟨h.1.1.ext S hT r, fun a v hav => ⟨prot_ext (h.1.2 a v hav).1 (hg a v hav) r, fun x => hbe ((h.1.2 a v hav).2 x) (hg a v hav) r⟩⟩, ?_⟩, fun w w' r h => ⟨⟨h.1.1.only S hT r, fun a v hav => ⟨prot_only (h.1.2 a v hav).1 (hn a v hav).2 r, fun x => hbo ((h.1.2 a v hav).2 x) (hn a v hav).2 r⟩⟩, ?_⟩⟩
  · exact ((h.1.1.tm_mono h.2).ext S (O.old m) r).tm
  · exact ((h.1.1.tm_mono h.2).only S (O.old m) r).tm

/-- Main stands at the send: the token comes to worker k. -/
theorem give_worker [Ref] (S : Rs c) (O : TasksOk t c.N₀ c.FV) {k : Nat} {r : Wk} (hk : c.ks[k]? = some r) (hen : s.en k = false) {cs : List Frame} {m : Machine} {T : Trace} (H : MS t c s (fun g => g = atS r.bs r.cr cs) m T) :
    Lands Try.prog m T (WS t c s k r cs (fun g w => ∃ g₂ b1 b2 ex, g = Go.Conc.served g₂ (.agg #[]) ∧ t.At r c.wg c.ev k (s.loc k) b1 b2 ex g₂ ∧ (∀ a v, LeanX r c.ev b1 b2 (t.tv k) k ex a v → ¬ c.Sh (.cell a) ∧ a.block ≠ c.ev) ∧
      WB (c.X True) c.B₀ (LeanX r c.ev b1 b2 (t.tv k) k ex) (fun w => WrW t c s.en (LeanX r c.ev b1 b2 (t.tv k) k ex) w ∧ t.Tm s.m w) w ∧ ∃ u, Evs (c.X True) c.V c.ev s.E u w)) := by
  obtain ⟨gs, w, sl, q, Rd, B, cn, g, rfl, hn, hg, ⟨rfl, hQ⟩, hB, C⟩ := H
  obtain ⟨hBk, hcn⟩ := (hB.2.2 k r hk (by simp)).1 hen
  have hlt : k < c.ks.length := (List.getElem?_eq_some_iff.1 hk).1
  have hrm := mem_of_get hk
  have W := hQ.1.wk k r hk
  have rg := S.rng r hrm
  have one := S.one
  obtain ⟨jp, hjp⟩ := W.hcp
  have c1 : w.cell? ⟨r.bs, 1, none⟩ = some (.chan (some r.cp)) := by simp [World.cell?, W.hbs]
  have p1 : (c.X True).St ⟨r.bs, 1, none⟩ := .inl ⟨r, hrm, .inr (.inr (.inr (.inr rfl)))⟩
  have gn := S.gn
  have rbs := rg r.bs (by simp [Wk.blocks])
  obtain ⟨N, m', T', hr, hgv⟩ := C.crew.give (sl := sl) (rely_ext c.V B c.h) (fun _ _ _ x y => x.trans y) (j := c.γ + k) (a₂ := atS r.bs r.cr cs) (v := .agg #[]) (z' := .tuple #[]) (by omega) (by omega) hBk hg rfl (fun w₁ _ => atS_send _ r.bs r.cr cs w₁)
    (.seat r.cp (.bool false) (homeM r cs)) (fun l => l = .cell ⟨r.bs, 1, none⟩) (fun l hl => ⟨_, hl, .inl p1, by rw [hl]; exact S.nsh rbs.1 rbs.2.1 rbs.2.2.1 rfl, by rw [hl]; exact block_of_cell c1⟩)
    ⟨.inl ⟨r, hrm, .inr rfl⟩, ⟨jp, hjp⟩, hB.no_cp S hk (by simp)⟩ (nh := (0, 21)) (fun w₁ T₁ Rd₁ he _ hr => ⟨rfl, (fun a v => a = ⟨r.bs, 1, none⟩ ∧ v = .chan (some r.cp)), fun a v h => by obtain ⟨rfl, rfl⟩ := h; exact ⟨by rw [he.st _ p1]; exact c1, .inl p1, hr _ rfl⟩, .inl ⟨20, rfl, s_back _ _ ⟨rfl, rfl⟩ cs ⟨rfl, rfl⟩⟩⟩)
  obtain ⟨gs', w₁, kc, g₂, L, sl', q', Rd', B₁, cn₁, rfl, hsz', hext, _, henv, hck, hgj, ⟨b1, b2, ex, rfl, hAt⟩, hL, hlat, C'⟩ := hgv
  have hio : Outs (w₁.setChan r.cr 0 #[] false (kc + 1) (kc + 1) false) := C.sys.of henv.io
  have hQ₁ := qm_rl S O _ _ hQ hext
  have hQ₂ := qm_chan O hQ₁ (rg r.cr (by simp [Wk.blocks])).1 hck (kc + 1)
  refine ⟨N, _, _, hr, gs', _, sl', q', Rd', _, cn₁, _, rfl, hsz'.trans hn, hgj, ⟨g₂, b1, b2, ex, rfl, hAt, fun a v hav => ⟨(hL a v hav).2.2, ?_⟩, ⟨fun a v hav => (hL a v hav).1, hQ₂.1.size, ⟨⟨hQ₂.1.tm_mono trivial, fun a v hav => ⟨(hL a v hav).2.1, fun hf => (hL a v hav).2.1.elim (fun hs => by
    obtain ⟨_, _, v', h1, h2⟩ := C'.st a hs
    rw [(hL a v hav).1] at h1
    obtain rfl := Option.some.inj h1
    exact absurd h2 hf) fun x => x.2.2⟩⟩, hQ₂.1.tm⟩, fun a v hav => prot_notEv (hL a v hav).2.1⟩, hQ₂.2⟩, ⟨?_, ?_, ?_⟩, ⟨C', hio⟩⟩
  · obtain ⟨u, hu⟩ := hQ₂.2
    exact prot_ne_ev S hu (hL a v hav).2.1
  · have hB₁ := hB.later S (.inl rfl) hlat
    refine ⟨S.fb.up _ _ _ _ (fun j _ hj => upd_ne _ _ hj) (fun _ _ => rfl) hB₁.1, fun j hj' => ?_, fun k' r' hk' hx => ?_⟩
    · rw [upd_ne _ _ (by omega)]; exact hB₁.2.1 j hj'
    · rw [upd_ne _ _ (by omega)]; exact hB₁.2.2 k' r' hk' (by simp)
  · rw [upd_same]
  · rw [hlat.cn _ (.inr fun j e => by rw [hBk] at e; cases e)]; exact hcn

/-- Where the token has come back to main. -/
abbrev MB [Ref] (t : Tasks) (c : Rc) (s s' : Sst t) (r : Wk) (v : Bool) (cs : List Frame) : Machine → Trace → Prop :=
  Held Try.prog (c.X True) c.V c.h 0 c.n (Bys t c s' none) (fun g w => g = Go.Conc.served (atSr r.bs r.cr r.cp cs) (.bool v) ∧ QM t c s.en s'.m s'.E w)
/-- Behind a yield the token comes back. -/
theorem give_back [Ref] (S : Rs c) (O : TasksOk t c.N₀ c.FV) {k : Nat} {r : Wk} (hk : c.ks[k]? = some r) {cs : List Frame} {m : Machine} {T : Trace} {L₀ : Addr → Value → Prop} (hL : ∀ a v, L₀ a v → ¬ c.Sh (.cell a) ∧ a.block ≠ c.ev) {v : Bool} {s' : Sst t} {a : Goroutine} (hrun : a.status = .running)
    (hsend : ∀ w, stepG Try.prog false a w = .comm a #[scase r.cp (.bool v) (.tuple #[])] true .send w #[]) (hs' : ∀ k', k' ≠ k → s'.en k' = s.en k' ∧ s'.loc k' = s.loc k') (Bh : By) (Rh : Loc → Prop) (hRh : ∀ l, Rh l → ∃ a v, L₀ a v ∧ l = .cell a) (nh : Nat × Nat)
    (hfit : Bh = .seat r.cr (.agg #[]) (t.home c r k (s'.loc k)) ∧ s'.en k = false ∨ Bh = .dn 6 ∧ s'.en k = true ∧ ∀ l, ¬ Rh l)
    (hafter : ∀ w w₁ T₁ Rd₁, WB (c.X True) c.B₀ L₀ (fun w => WrW t c s.en L₀ w ∧ t.Tm s'.m w) w → Go.ConcN.WgLive link.tWg c.wg w → Env (c.X True) w w₁ → Deaf T₁ (c.γ + k) = 0 → (∀ l, Rh l → Rd₁ (c.γ + k) l) → Idle Try.prog (c.X True) Rd₁ T₁ w₁ (c.γ + k) nh (Go.Conc.served a undef) Bh)
    (H : WS t c s k r cs (fun g w => g = a ∧ WB (c.X True) c.B₀ L₀ (fun w => WrW t c s.en L₀ w ∧ t.Tm s'.m w) w ∧ ∃ u, Evs (c.X True) c.V c.ev s'.E u w) m T) : Lands Try.prog m T (MB t c s s' r v cs) := by
  obtain ⟨gs, w, sl, q, Rd, B, cn, g, rfl, hn, hg, ⟨hga, hW, hE⟩, ⟨hB, h0, hcn⟩, C⟩ := H
  rw [hga] at hg
  have hlt : k < c.ks.length := (List.getElem?_eq_some_iff.1 hk).1
  have hrm := mem_of_get hk
  have one := S.one
  have rg := S.rng r hrm
  have hQ : QM t c s.en s'.m s'.E w := ⟨hW.task.1.1.tm_mono hW.task.2, hE⟩
  have Wk' := hQ.1.wk k r hk
  obtain ⟨jr, hjr⟩ := Wk'.hcr
  have hf : (c.γ + k == 0) = false := by simp; omega
  have gn := S.gn
  have hXw : (c.X True).wg (c.γ + k) = c.wg := if_pos (by omega)
  have hon : (c.X True).on c.wg := .inr ⟨trivial, rfl⟩
  have hlive : Go.ConcN.WgLive link.tWg c.wg w := (C.mdok c.wg hon).wg
  have hFit : Fits (c.X True) c.V (c.γ + k) B cn Rh w Bh := by
    rcases hfit with ⟨rfl, _⟩ | ⟨rfl, _, h⟩
    · exact ⟨.inl ⟨r, hrm, .inl rfl⟩, ⟨jr, hjr⟩, hB.no_cr S hk h0⟩
    · exact ⟨hcn, by omega, by rw [hXw]; exact .inl rfl, h⟩
  obtain ⟨N, m', T', hr, hgv⟩ := C.crew.give (sl := sl) (rely_ext c.V B (c.γ + k)) (fun _ _ _ x y => x.trans y) (j := c.h) (a₂ := a) (v := .bool v) (z' := .tuple #[]) (by omega) (by omega) h0 hg hrun (fun w₁ _ => by rw [hf]; exact hsend w₁)
    Bh Rh (fun l hl => by
      obtain ⟨x, y, hxy, rfl⟩ := hRh l hl
      exact ⟨x, rfl, (hW.task.1.2 x y hxy).1, (hL x y hxy).1, block_of_cell (hW.kl x y hxy)⟩) hFit (nh := nh) (fun w₁ T₁ Rd₁ he hd hr => hafter w w₁ T₁ Rd₁ hW hlive he hd hr)
  obtain ⟨gs', w₁, kc, g₂, L, sl', q', Rd', B₁, cn₁, rfl, hsz', hext, _, henv, hck, hgj, ⟨rfl, rfl⟩, _, hlat, C'⟩ := hgv
  have hio : Outs (w₁.setChan r.cp 0 #[] false (kc + 1) (kc + 1) false) := C.sys.of henv.io
  have hQ₁ := qm_rl S O _ _ hQ hext
  have hQ₂ := qm_chan O hQ₁ (rg r.cp (by simp [Wk.blocks])).1 hck (kc + 1)
  refine ⟨N, _, _, hr, gs', _, sl', q', Rd', _, cn₁, _, rfl, hsz'.trans hn, hgj, ⟨rfl, hQ₂⟩, ?_, ⟨C', hio⟩⟩
  have hB₁ := hB.later S (.inr ⟨by omega, _, _, _, h0⟩) hlat
  have hcn₁ : cn₁ (c.γ + k) = 1 := (hlat.cn _ (.inl rfl)).trans hcn
  refine ⟨S.fb.up _ _ _ _ (fun j hj _ => upd_ne _ _ (by omega)) (fun _ _ => rfl) hB₁.1, fun j hj' => ?_, fun k' r' hk' hx => ?_⟩
  · rw [upd_ne _ _ (by omega)]; exact hB₁.2.1 j hj'
  · by_cases e : k' = k
    · subst e
      rw [hk] at hk'
      obtain rfl := Option.some.inj hk'
      rw [upd_same]
      rcases hfit with ⟨rfl, he⟩ | ⟨rfl, he, _⟩
      · exact ⟨fun _ => ⟨rfl, hcn₁⟩, (fun h => by rw [he] at h; cases h)⟩
      · exact ⟨(fun h => by rw [he] at h; cases h), fun _ => .inr ⟨6, rfl⟩⟩
    · rw [upd_ne _ _ (by omega), (hs' k' e).1, (hs' k' e).2]
      exact hB₁.2.2 k' r' hk' (fun h => e (Option.some.inj h).symm)

/-- Behind a turn: the token is still worker k's; what is fixed may have grown. -/
def TurnedS [Ref] (t : Tasks) (c : Rc) (s : Sst t) (k : Nat) (r : Wk) (cs : List Frame) : Machine → Trace → Prop :=
  WS t c s k r cs (fun g w => ∃ b1 b2 ex, (∀ a v, LeanX r c.ev b1 b2 (t.tv k) k ex a v → ¬ c.Sh (.cell a) ∧ a.block ≠ c.ev) ∧ t.Turned (c.X True) c.V c.B₀ r c.wg c.ev k (s.loc k) s.m b1 b2 s.E (WrW t c s.en (LeanX r c.ev b1 b2 (t.tv k) k ex)) ex g w)
/-- Ahead of a turn. -/
def TurnS [Ref] (t : Tasks) (c : Rc) (s : Sst t) (k : Nat) (r : Wk) (cs : List Frame) : Machine → Trace → Prop :=
  WS t c s k r cs (fun g w => ∃ g₂ b1 b2 ex, g = Go.Conc.served g₂ (.agg #[]) ∧ t.At r c.wg c.ev k (s.loc k) b1 b2 ex g₂ ∧ (∀ a v, LeanX r c.ev b1 b2 (t.tv k) k ex a v → ¬ c.Sh (.cell a) ∧ a.block ≠ c.ev) ∧
      WB (c.X True) c.B₀ (LeanX r c.ev b1 b2 (t.tv k) k ex) (fun w => WrW t c s.en (LeanX r c.ev b1 b2 (t.tv k) k ex) w ∧ t.Tm s.m w) w ∧ ∃ u, Evs (c.X True) c.V c.ev s.E u w)
/-- More is fixed. -/
structure Grow (b : Rb) (e e' : Re) : Prop where
  B₀ : e.B₀ ≤ e'.B₀
  n : e.n ≤ e'.n
  Sh : ∀ l, e.Sh l → e'.Sh l
  new : ∀ a, e'.Sh (.cell a) → e.Sh (.cell a) ∨ b.B₁ ≤ a.block
  FSt : ∀ a, e.FSt a → e'.FSt a
  FCh : ∀ x, e.FCh x → e'.FCh x
  newS : ∀ a, e'.FSt a → e.FSt a ∨ b.B₁ ≤ a.block
  newC : ∀ x, e'.FCh x → e.FCh x ∨ b.B₁ ≤ x
theorem Grow.refl (b : Rb) (e : Re) : Grow b e e := ⟨Nat.le_refl _, Nat.le_refl _, fun _ h => h, fun _ h => .inl h, fun _ h => h, fun _ h => h, fun _ h => .inl h, fun _ h => .inl h⟩
theorem Grow.trans {b : Rb} {e e' e'' : Re} (h : Grow b e e') (k : Grow b e' e'') : Grow b e e'' := ⟨Nat.le_trans h.1 k.1, Nat.le_trans h.2 k.2, fun l x => k.Sh l (h.Sh l x), fun a x => (k.new a x).elim (h.new a) .inr, fun a x => k.FSt a (h.FSt a x), fun a x => k.FCh a (h.FCh a x), fun a x => (k.newS a x).elim (h.newS a) .inr, fun a x => (k.newC a x).elim (h.newC a) .inr⟩
/-- A turn of worker k's, on the machine, whatever the extras. -/
def TurnsOk [Ref] (t : Tasks) (b : Rb) (e₀ : Re) (k : Nat) : Prop :=
  ∀ (e : Re) (s : Sst t) (r : Wk) (cs : List Frame) (m : Machine) (T : Trace), Grow b e₀ e → Rs { toRb := b, toRe := e } → b.ks[k]? = some r → s.en k = false → t.InvS s → (s.E.length + 1) * 1024 ≤ 140737488355328 → TurnS t { toRb := b, toRe := e } s k r cs m T →
    Lands Try.prog m T (fun m' T' => ∃ e', Grow b e e' ∧ Rs { toRb := b, toRe := e' } ∧ TurnedS t { toRb := b, toRe := e' } s k r cs m' T')
/-- .. where it is a walk. -/
theorem turns_of_walk [Ref] {b : Rb} {e₀ : Re} {Sh0 : Loc → Prop} {k : Nat} (O : TasksOk t b.N₀ b.FV) (hW : t.WalkOk b.N₀ Sh0 k) (hS0 : ∀ a, e₀.Sh (.cell a) → Sh0 (.cell a) ∨ b.N₀ ≤ a.block) : TurnsOk t b e₀ k := by
  intro e s r cs m T hG S hk hen hI hE H
  have S0 : ∀ a, e.Sh (.cell a) → Sh0 (.cell a) ∨ b.N₀ ≤ a.block := fun a ha => (hG.new a ha).elim (hS0 a) fun h => .inr (Nat.le_trans (show b.N₀ ≤ b.B₁ from S.lt1) h)
  refine (Held.walk (K' := fun g w => ∃ b1 b2 ex, (∀ a v, LeanX r b.ev b1 b2 (t.tv k) k ex a v → ¬ e.Sh (.cell a) ∧ a.block ≠ b.ev) ∧ t.Turned (({ toRb := b, toRe := e } : Rc).X True) ({ toRb := b, toRe := e } : Rc).V e.B₀ r b.wg b.ev k (s.loc k) s.m b1 b2 s.E (WrW t { toRb := b, toRe := e } s.en (LeanX r b.ev b1 b2 (t.tv k) k ex)) ex g w) H (ws_stb S) fun g w hK => ?_).mono fun m' T' h => ⟨e, Grow.refl b e, S, h⟩
  obtain ⟨g₂, b1, b2, ex, rfl, hAt, hL, hW', u, hu⟩ := hK
  have one : b.h < b.γ := S.one
  have hf : (b.γ + k == 0) = false := by simp; omega
  obtain ⟨N, hG⟩ := hW (({ toRb := b, toRe := e } : Rc).X True) ({ toRb := b, toRe := e } : Rc).V e.B₀ r b.wg b.ev (s.loc k) s.m b1 b2 s.E u (.agg #[]) _ ex w g₂ ⟨s, hI, hen, rfl, rfl, rfl⟩ hAt (fun m => fx_of S O hL m) (fun a ha => S0 a ha) (fun b hb => hb) S.ev.1 hE ⟨hW', hu⟩
  refine ⟨N, ?_⟩
  show Goes _ (b.γ + k == 0) _ _ _ _ _ _
  rw [hf]
  exact goes_imp (fun _ _ x => x) (fun _ _ _ x => x) (fun g w h => ⟨b1, b2, ex, hL, h⟩) hG
set_option maxHeartbeats 1000000 in
/-- Behind a turn the token comes back. -/
theorem turned_back [Ref] (S : Rs c) (O : TasksOk t c.N₀ c.FV) {k : Nat} {r : Wk} (hen : s.en k = false) (hk : c.ks[k]? = some r) {b₀ : Frame} {a₀ : Act} {ops : Array Oper} {j : Nat} {rest : List Nat} {kk : List Item} {cs : List Frame} {m₃ : Machine} {T₃ : Trace}
    (H₃ : TurnedS t c s k r (b₀.at a₀ (.inRegion ops (j :: rest) :: kk) :: cs) m₃ T₃) :
    Lands Try.prog m₃ T₃ (MS t c (t.step k s) (fun g => g = G (b₀.at (a₀.put ((ops[j]?).bind (·.dst)) (.tuple #[])) (.inRegion ops rest :: kk)) cs)) := by
  have hrm := mem_of_get hk
  have rg := S.rng r hrm
  have rbs := rg r.bs (by simp [Wk.blocks])
  have hsh : ∀ i, ¬ (c.X True).Sh (.cell ⟨r.bs, i, none⟩) := fun i => S.nsh rbs.1 rbs.2.1 rbs.2.2.1 rfl
  have one := S.one
  have hf : (c.γ + k == 0) = false := by simp; omega
  obtain ⟨gs, w, sl, q, Rd, B, cn, g, rfl, hn, hg, ⟨b1, b2, ex, hL, hT⟩, hB, C⟩ := H₃
  have tail : ∀ (v : Bool) (s' : Sst t), t.step k s = s' → s'.en = upd s.en k v → Lands Try.prog (crowd gs w sl) T₃ (MB t c s s' r v (b₀.at a₀ (.inRegion ops (j :: rest) :: kk) :: cs)) →
      Lands Try.prog (crowd gs w sl) T₃ (MS t c (t.step k s) (fun g => g = G (b₀.at (a₀.put ((ops[j]?).bind (·.dst)) (.tuple #[])) (.inRegion ops rest :: kk)) cs)) := by
    intro v s' hst hen' hl
    rw [hst]
    refine hl.bind fun m₄ T₄ H₄ => H₄.walk (ms_stb S) fun g w hK => ⟨0 + 6, ?_⟩
    obtain ⟨rfl, hQ⟩ := hK
    refine s_fin (Q := QM t c s.en s'.m s'.E) (Q' := QM t c s'.en s'.m s'.E) (R := Ext c.V) (X := c.X True) v (fun w w' h r => qm_rl S O w w' h r) (fun w w' h r => qm_rl S O w w' h r) (fun w h => ?_) (fun w h => ?_) (fun w h es hes => ⟨h.1.set_hd S hk v hes, ?_, ?_⟩) cs w hQ fun w h => Goes.stop fun w' r => ⟨rfl, qm_rl S O w w' h r⟩
    · have := (h.1.wk k r hk).hbs
      exact ⟨.bool (s.en k), by simp [World.cell?, this]⟩
    · have := (h.1.wk k r hk).hbs
      simp [World.frozen?, this]
    · rw [hen']; exact h.1.set S (O.old s'.m) hk v
    · exact h.2.imp fun u hu => hu.set S hrm (.bool v)
  have hXw : (c.X True).wg (c.γ + k) = c.wg := if_pos (by omega)
  have hon : (c.X True).on ((c.X True).wg (c.γ + k)) := by rw [hXw]; exact .inr ⟨trivial, rfl⟩
  have henu : s.en = upd s.en k false := by
    funext i
    by_cases e : i = k
    · subst e; rw [upd_same, hen]
    · rw [upd_ne _ _ e]
  rcases hT with ⟨m', x, l', cs', u, ex', hnx, rfl, hAt, hW, hex, hu⟩ | ⟨m', xv, u, hnx, rfl, hW, hu⟩
  · refine tail false ⟨s.en, upd s.loc k l', m', s.E ++ [((k : Int), x)]⟩ (by unfold Tasks.step; rw [hen, hnx]; rfl) henu ?_
    have hL' : ∀ a v, LeanX r c.ev b1 b2 (t.tv k) k ex' a v → ¬ c.Sh (.cell a) ∧ a.block ≠ c.ev := fun a v hav => by
      rcases hav with hav | hav
      · exact hL a v (.inl hav)
      · rcases hex a v hav with h | h
        · exact hL a v (.inr h)
        · exact ⟨h.2.1, h.2.2.1⟩
    have hW' : WB (c.X True) c.B₀ (LeanX r c.ev b1 b2 (t.tv k) k ex') (fun w => WrW t c s.en (LeanX r c.ev b1 b2 (t.tv k) k ex') w ∧ t.Tm m' w) w := ⟨hW.kl, hW.size, ⟨⟨hW.task.1.1, fun a v hav => by
      rcases hav with hav | hav
      · exact hW.task.1.2 a v (.inl hav)
      · rcases hex a v hav with h | h
        · exact hW.task.1.2 a v (.inr h)
        · exact ⟨h.1, fun x => absurd h.2.2.2 x⟩⟩, hW.task.2⟩, hW.lt⟩
    refine give_back S O hk hL' (L₀ := LeanX r c.ev b1 b2 (t.tv k) k ex') (s' := ⟨s.en, upd s.loc k l', m', s.E ++ [((k : Int), x)]⟩) rfl (fun w => atY_send r.bs r.cp b1 b2 c.ev r.bi x cs' w) (fun k' hk' => ⟨rfl, upd_ne _ _ hk'⟩) (.seat r.cr (.agg #[]) (t.home c r k l')) (fun l => ∃ a v, LeanX r c.ev b1 b2 (t.tv k) k ex' a v ∧ l = .cell a) (fun l hl => hl) (0, 21) (.inl ⟨by simp only [upd_same], hen⟩)
      (fun w w₁ T₁ Rd₁ hW _ he _ hr => ⟨rfl, _, fun a v hav => ⟨by rw [(he.prot (hW.task.1.2 a v hav).1).1]; exact hW.kl a v hav, (he.prot (hW.task.1.2 a v hav).1).2, hr _ ⟨a, v, hav, rfl⟩⟩, .inl ⟨20, rfl, ?_⟩⟩)
      ⟨gs, w, sl, q, Rd, B, cn, _, rfl, hn, hg, ⟨rfl, hW', u, hu⟩, hB, C⟩
    rw [hf]
    exact y_back r.bw r.bt c.ev r.bi r.bs r.cr r.cp b1 b2 (t.tv k) k (fun _ _ h => .inl h) x cs' _ ⟨b1, b2, ex', rfl, hAt⟩
  · refine tail true ⟨upd s.en k true, s.loc, m', s.E⟩ (by unfold Tasks.step; rw [hen, hnx]; rfl) rfl ?_
    refine give_back S O hk hL (L₀ := LeanX r c.ev b1 b2 (t.tv k) k ex) (s' := ⟨upd s.en k true, s.loc, m', s.E⟩) rfl (fun w => atX_send c.ev r.bi r.bs r.cr r.cp b1 b2 (t.tv k) xv _ w) (fun k' hk' => ⟨upd_ne _ _ hk', rfl⟩) (.dn 6) (fun _ => False) (fun l hl => hl.elim) (6, 30) (.inr ⟨rfl, upd_same .., fun l h => h⟩)
      (fun w w₁ T₁ Rd₁ hW hl he hd hr => ⟨by omega, hon, rfl, b2, ?_, ?_⟩)
      ⟨gs, w, sl, q, Rd, B, cn, _, rfl, hn, hg, ⟨rfl, hW, u, hu⟩, hB, C⟩
    · exact he.box ((hW.task.1.2 _ _ (.inl (.inr ⟨rfl, rfl⟩))).2 (fun h => h _ _ _ rfl))
    · rw [hXw]
      refine ⟨hd, x_back c.wg r.bw r.bt c.ev r.bi r.bs r.cr r.cp b1 b2 b2 (t.tv k) xv w₁ ⟨he.live c.wg (.inr ⟨trivial, rfl⟩) hl, recF c.ev r.bi, ?_⟩⟩
      have hp := (hW.task.1.2 ⟨b2, 0, none⟩ (recF c.ev r.bi) (.inl (.inr ⟨rfl, rfl⟩))).1
      rw [(he.prot hp).1]
      exact hW.kl _ _ (.inl (.inr ⟨rfl, rfl⟩))
set_option maxHeartbeats 1000000 in
/-- MAIN's STEP. -/
theorem step_turn [Ref] (S : Rs c) (O : TasksOk t c.N₀ c.FV) (hE : (s.E.length + 1) * 1024 ≤ 140737488355328) (hI : t.InvS s) {k : Nat} {r : Wk} {e₀ : Re} (hTn : TurnsOk t c.toRb e₀ k) (hG0 : Grow c.toRb e₀ c.toRe) (hk : c.ks[k]? = some r) {b₀ : Frame} {a₀ : Act} {ops : Array Oper} {j : Nat} {rest : List Nat} {kk : List Item} {cs : List Frame} {m : Machine} {T : Trace}
    (H : MS t c s (fun g => g = inS r.bs (b₀.at a₀ (.inRegion ops (j :: rest) :: kk) :: cs)) m T) :
    Lands Try.prog m T (fun m' T' => ∃ e', Grow c.toRb c.toRe e' ∧ Rs (c.wi e') ∧ MS t (c.wi e') (t.step k s) (fun g => g = G (b₀.at (a₀.put ((ops[j]?).bind (·.dst)) (.tuple #[])) (.inRegion ops rest :: kk)) cs) m' T') := by
  have hrm := mem_of_get hk
  have rg := S.rng r hrm
  have rbs := rg r.bs (by simp [Wk.blocks])
  have hsh : ∀ i, ¬ (c.X True).Sh (.cell ⟨r.bs, i, none⟩) := fun i => S.nsh rbs.1 rbs.2.1 rbs.2.2.1 rfl
  have hlt : k < c.ks.length := (List.getElem?_eq_some_iff.1 hk).1
  have one := S.one
  have hf : (c.γ + k == 0) = false := by simp; omega
  cases hen : s.en k with
  | true =>
    have hst : t.step k s = s := by unfold Tasks.step; rw [hen]; rfl
    rw [hst]
    refine (Held.walk (K' := fun g w => g = G (b₀.at (a₀.put ((ops[j]?).bind (·.dst)) (.tuple #[])) (.inRegion ops rest :: kk)) cs ∧ QM t c s.en s.m s.E w) H (ms_stb S) fun g w hK => ⟨0 + 11, ?_⟩).mono fun m' T' h => ⟨c.toRe, Grow.refl _ _, S, h⟩
    obtain ⟨rfl, hQ⟩ := hK
    refine s_ended (Q := QM t c s.en s.m s.E) (R := Ext c.V) (X := c.X True) (fun w w' h r => qm_rl S O w w' h r) (fun w h => ?_) hsh cs w hQ fun w h => Goes.stop fun w' r => ⟨rfl, qm_rl S O w w' h r⟩
    have := (h.1.wk k r hk).hbs
    rw [hen] at this
    simp [World.cell?, this]
  | false =>
    -- to the send
    refine (H.walk (K' := fun g w => g = atS r.bs r.cr (b₀.at a₀ (.inRegion ops (j :: rest) :: kk) :: cs) ∧ QM t c s.en s.m s.E w) (ms_stb S) fun g w hK => ⟨20, ?_⟩).bind fun m₁ T₁ H₁ => ?_
    · obtain ⟨rfl, hQ⟩ := hK
      refine s_send (Q := QM t c s.en s.m s.E) (R := Ext c.V) (X := c.X True) (fun w w' h r => qm_rl S O w w' h r) (fun w h => ?_) (fun w h => ?_) hsh _ w hQ
      · have := (h.1.wk k r hk).hbs
        rw [hen] at this
        simp [World.cell?, this]
      · have := (h.1.wk k r hk).hbs
        simp [World.cell?, this]
    refine (give_worker S O hk hen H₁).bind fun m₂ T₂ H₂ => ?_
    -- the worker's turn
    refine (hTn c.toRe s r _ m₂ T₂ hG0 S hk hen hI hE H₂).bind fun m₃ T₃ H₃ => ?_
    obtain ⟨e', hgr, S', H₃⟩ := H₃
    exact (turned_back (c := c.wi e') S' O hen hk H₃).mono fun m' T' h => ⟨e', hgr, S', h⟩

end
end
end Go.Proofs.Ytggfcdhkgldbfaa
