/-
  PARTS of a claim, merged by segs.py: NwY4, NwY5.
-/
import Derived.Test.YtggfcdhkgldbfaaN21
namespace Go.Proofs.Ytggfcdhkgldbfaa
set_option linter.unusedSimpArgs false
set_option linter.unusedVariables false

/-! ### NwY4 -/
section
set_option linter.unusedSimpArgs false
open Go Go.Conc Go.RowKit Go.ConcR.Gen Cw
open Go.ConcN (sumTo upd upd_same upd_ne sumTo_upd sumTo_congr le_sumTo)

theorem Held.ex [Ref] {α : Sort _} {P : Program} {X : Cx} {V : Nat → Prop} {h dh n : Nat} {Bp : (Nat → By) → (Nat → Nat) → Prop} {K : α → Goroutine → World → Prop} {m : Machine} {T : Trace} (H : Held P X V h dh n Bp (fun g w => ∃ x, K x g w) m T) : ∃ x, Held P X V h dh n Bp (K x) m T := by
  obtain ⟨gs, w, sl, q, Rd, B, cn, g, rfl, hn, hg, ⟨x, hK⟩, hB, C⟩ := H
  exact ⟨x, gs, w, sl, q, Rd, B, cn, g, rfl, hn, hg, hK, hB, C⟩
theorem Held.and [Ref] {P : Program} {X : Cx} {V : Nat → Prop} {h dh n : Nat} {Bp : (Nat → By) → (Nat → Nat) → Prop} {p : Prop} {K : Goroutine → World → Prop} {m : Machine} {T : Trace} (H : Held P X V h dh n Bp (fun g w => p ∧ K g w) m T) : p ∧ Held P X V h dh n Bp K m T := by
  obtain ⟨gs, w, sl, q, Rd, B, cn, g, rfl, hn, hg, ⟨hp, hK⟩, hB, C⟩ := H
  exact ⟨hp, gs, w, sl, q, Rd, B, cn, g, rfl, hn, hg, hK, hB, C⟩

section
variable {t : Tasks} {b : Rb} {e₀ : Re} {s : Sst t} {N₀ : Nat} {FV : Nat → Prop}
/-- The events so far and those that may still come. -/
def Tasks.pot (t : Tasks) (n : Nat) (s : Sst t) : Nat := s.E.length + sumTo n (fun k => t.rk k (s.loc k))
theorem pot_step (O : TasksOk t N₀ FV) {n k : Nat} (hk : k < n) (s : Sst t) : t.pot n (t.step k s) ≤ t.pot n s := by
  unfold Tasks.step
  split
  · exact Nat.le_refl _
  · cases hx : t.next k (s.loc k) s.m with
    | mk m' o =>
      cases o with
      | none => exact Nat.le_refl _
      | some y =>
        obtain ⟨x, l'⟩ := y
        have h1 := O.rk _ _ _ _ _ _ hx
        have h2 := sumTo_upd (fun k => t.rk k (s.loc k)) (t.rk k l') (fun a => a) hk
        have h3 : sumTo n (fun a => t.rk a (upd s.loc k l' a)) = sumTo n (fun a => upd (fun k => t.rk k (s.loc k)) k (t.rk k l') a) := sumTo_congr fun i _ => by
          by_cases e : i = k
          · subst e; simp only [upd_same]
          · simp only [upd_ne _ _ e]
        simp only [Tasks.pot, List.length_append, List.length_cons, List.length_nil]
        simp only [] at h2
        rw [h3]
        omega
theorem E_pot (n : Nat) (s : Sst t) : s.E.length ≤ t.pot n s := by unfold Tasks.pot; omega
theorem en_step (k k' : Nat) (s : Sst t) (h : s.en k' = true) : (t.step k s).en k' = true := by
  unfold Tasks.step
  split
  · exact h
  · split
    · exact h
    · show upd s.en k true k' = true
      by_cases e : k' = k
      · subst e; rw [upd_same]
      · rw [upd_ne _ _ e]; exact h
def itr {α : Type _} (f : α → α) : Nat → α → α
  | 0, x => x
  | n + 1, x => itr f n (f x)
theorem itr_id {α : Type _} {f : α → α} {x : α} (h : f x = x) : ∀ n, itr f n x = x
  | 0 => rfl
  | n + 1 => by rw [itr, h, itr_id h n]
/-- Worker k runs to its end. -/
def Tasks.drain (t : Tasks) (k : Nat) (s : Sst t) : Sst t := itr (t.step k) (t.rk k (s.loc k) + 1) s
theorem step_id {k : Nat} {s : Sst t} (h : s.en k = true) : t.step k s = s := by unfold Tasks.step; rw [h]; rfl
theorem itr_ended (O : TasksOk t N₀ FV) (k : Nat) : ∀ (f : Nat) (s : Sst t), (t.rk k (s.loc k) < f ∨ s.en k = true) → (itr (t.step k) f s).en k = true
  | 0, s, h => by
    rcases h with h | h
    · omega
    · exact h
  | f + 1, s, h => by
    rw [itr]
    cases he : s.en k with
    | true => rw [step_id he, itr_id (step_id he)]; exact he
    | false =>
      refine itr_ended O k f _ ?_
      unfold Tasks.step
      rw [he]
      simp only [Bool.false_eq_true, if_false]
      cases hx : t.next k (s.loc k) s.m with
      | mk m' o =>
        cases o with
        | none => exact .inr (upd_same _ _ _)
        | some y =>
          obtain ⟨x, l'⟩ := y
          refine .inl ?_
          have h1 := O.rk _ _ _ _ _ _ hx
          show t.rk k (upd s.loc k l' k) < f
          rw [upd_same]
          rcases h with h | h
          · omega
          · rw [he] at h; cases h
theorem itr_keep (k k' : Nat) : ∀ (f : Nat) (s : Sst t), s.en k' = true → (itr (t.step k) f s).en k' = true
  | 0, _, h => h
  | f + 1, s, h => itr_keep k k' f _ (en_step k k' s h)
theorem itr_pot (O : TasksOk t N₀ FV) {n k : Nat} (hk : k < n) : ∀ (f : Nat) (s : Sst t), t.pot n (itr (t.step k) f s) ≤ t.pot n s
  | 0, _ => Nat.le_refl _
  | f + 1, s => Nat.le_trans (itr_pot O hk f _) (pot_step O hk s)
/-- All from number k on. -/
def Tasks.drains (t : Tasks) (l : List Nat) (s : Sst t) : Sst t := l.foldl (fun s k => t.drain k s) s

/-- The bound on what is to come, and what holds of the state. -/
def Tasks.Bd (t : Tasks) (n Kb : Nat) (s : Sst t) : Prop := t.pot n s ≤ Kb ∧ t.InvS s
theorem bd_step (O : TasksOk t N₀ FV) {n k Kb : Nat} (hk : k < n) {s : Sst t} (h : t.Bd n Kb s) : t.Bd n Kb (t.step k s) := ⟨Nat.le_trans (pot_step O hk s) h.1, O.inv s k h.2⟩
theorem bd_itr (O : TasksOk t N₀ FV) {n k Kb : Nat} (hk : k < n) : ∀ (f : Nat) {s : Sst t}, t.Bd n Kb s → t.Bd n Kb (itr (t.step k) f s)
  | 0, _, h => h
  | f + 1, _, h => bd_itr O hk f (bd_step O hk h)
abbrev Rb.rc (b : Rb) (e : Re) : Rc := { toRb := b, toRe := e }
/-- What is known of a call. -/
structure Cl [Ref] (t : Tasks) (b : Rb) (e₀ : Re) (Kb : Nat) : Prop where
  O : TasksOk t b.N₀ b.FV
  tn : ∀ k, k < b.ks.length → TurnsOk t b e₀ k
  hKb : (Kb + 1) * 1024 ≤ 140737488355328
  n63 : b.ks.length < 9223372036854775807
theorem Cl.e [Ref] {Kb : Nat} (H : Cl t b e₀ Kb) {s : Sst t} (h : t.Bd b.ks.length Kb s) : (s.E.length + 1) * 1024 ≤ 140737488355328 := by
  have h1 := E_pot b.ks.length s
  exact Nat.le_trans (Nat.mul_le_mul_right _ (Nat.succ_le_succ (Nat.le_trans h1 h.1))) H.hKb
theorem wb_cell {c : Rc} (S : Rs c) {en : Nat → Bool} {tv : Nat → Value} {Tm : World → Prop} {w : World} (h : WI c tv en Tm w) {k : Nat} {r : Wk} (hk : c.ks[k]? = some r) : w.cell? ⟨c.wb, k, none⟩ = some (pb r.bs) := by
  obtain ⟨ws, h1, h2⟩ := h.wb
  simp [World.cell?, h1, h2 k r hk]

/-- THE PICKS. -/
theorem picks_loop [Ref] {Kb : Nat} (H : Cl t b e₀ Kb) {psv : Value} {p o cap ncap : Nat} {ps : List Nat} (hpv : ps = [] ∨ psv = .slice (some ⟨p, o, none⟩) ps.length cap) (hps : ∀ i ∈ ps, i < b.ks.length) (hn : ps.length < 9223372036854775807)
    (hpk : ∀ m w, t.Tm m w → ∀ (j i : Nat), ps[j]? = some i → w.cell? ⟨p, o + j, none⟩ = some (.int .i64 i)) (hsp : ∀ e, Grow b e₀ e → ∀ i, ¬ e.Sh (.cell ⟨p, i, none⟩)) {cs : List Frame} :
    ∀ (d j : Nat), j + d = ps.length → ∀ (e : Re) (s : Sst t) (m : Machine) (T : Trace), Grow b e₀ e → Rs (b.rc e) → t.Bd b.ks.length Kb s → MS t (b.rc e) s (Head2 (.slice (some ⟨b.wb, 0, none⟩) b.ks.length ncap) psv ps.length j b.wg b.ev cs) m T →
      Lands Try.prog m T (fun m' T' => ∃ e, Grow b e₀ e ∧ Rs (b.rc e) ∧ t.Bd b.ks.length Kb ((ps.drop j).foldl (fun s k => t.step k s) s) ∧ MS t (b.rc e) ((ps.drop j).foldl (fun s k => t.step k s) s) (Head3 (.slice (some ⟨b.wb, 0, none⟩) b.ks.length ncap) b.ks.length 0 b.wg b.ev cs) m' T')
  | 0, j, hj, e, s, m, T, hG, S, hp, HM => by
    obtain rfl : j = ps.length := by omega
    rw [List.drop_length, List.foldl_nil]
    refine (Held.walk HM (ms_stb S) fun g w hK => ⟨0 + 16, ?_⟩).mono fun m' T' h => ⟨e, hG, S, hp, h⟩
    exact p_end (Q := QM t (b.rc e) s.en s.m s.E) (R := Ext (b.rc e).V) (X := (b.rc e).X True) (fun w w' h r => qm_rl S H.O w w' h r) cs g w hK.2 hK.1 fun g w hg h => Goes.stop fun w' r => ⟨hg, qm_rl S H.O w w' h r⟩
  | d + 1, j, hj, e, s, m, T, hG, S, hp, HM => by
    have hjl : j < ps.length := by omega
    obtain ⟨i, hi⟩ : ∃ i, ps[j]? = some i := ⟨_, List.getElem?_eq_getElem hjl⟩
    have hin := hps i (List.mem_of_getElem? hi)
    obtain ⟨r, hr⟩ : ∃ r, b.ks[i]? = some r := ⟨_, List.getElem?_eq_getElem hin⟩
    obtain rfl : psv = .slice (some ⟨p, o, none⟩) ps.length cap := hpv.resolve_left (fun e => by rw [e] at hjl; simp at hjl)
    have hdr : ps.drop j = i :: ps.drop (j + 1) := by rw [List.drop_eq_getElem_cons hjl, (List.getElem?_eq_some_iff.1 hi).2]
    rw [hdr, List.foldl_cons]
    have swb := S.wb
    refine (Held.walk (K' := fun g w => ∃ T : Array Value, (T.size = 79 ∧ T[7]? = some (.slice (some ⟨b.wb, 0, none⟩) b.ks.length ncap) ∧ T[6]? = some (pb b.ev) ∧ T[8]? = some (pb b.wg) ∧ T[51]? = some (.slice (some ⟨p, o, none⟩) ps.length cap) ∧ T[52]? = some (.int .i64 ps.length) ∧ T[53]? = some (.int .i64 j)) ∧
      g = inS r.bs ((base 10).at ⟨T, []⟩ (.inRegion (opsOf (rt (inner (lf (rt (rt rnd2)))))) [4] :: [.inBlock 3, .code (rt (rt (rt rnd2))), .inLoop rnd2, .inBlock 2, .code cd9]) :: cs) ∧ QM t (b.rc e) s.en s.m s.E w) HM (ms_stb S) fun g w hK => ⟨30, ?_⟩).bind fun m₁ T₁ H₁ => ?_
    · refine goes_imp (fun _ _ x => x) (fun _ _ _ x => x) (fun g w h => ?_) (p_pick (Q := QM t (b.rc e) s.en s.m s.E) (R := Ext (b.rc e).V) (X := (b.rc e).X True) (bs := r.bs) (fun w w' h r => qm_rl S H.O w w' h r) hjl hin (fun w h => hpk _ w h.1.tm j i hi) (fun w h => wb_cell S h.1 hr) (hsp e hG) (fun k => S.nsh swb.1 swb.2.1 swb.2.2.1 rfl) cs g w hK.2 hK.1)
      obtain ⟨h1, T, a1, a2, a3, a4, a5, a6, a7, a8⟩ := h
      exact ⟨T, ⟨a1, a2, a3, a4, a5, a6, a7⟩, a8, h1⟩
    obtain ⟨T', H₁⟩ := H₁.ex
    obtain ⟨⟨a1, a2, a3, a4, a5, a6, a7⟩, H₁⟩ := H₁.and
    refine (step_turn (c := b.rc e) S H.O (H.e hp) hp.2 (H.tn i hin) hG hr H₁).bind fun m₂ T₂ H₂ => ?_
    obtain ⟨e, hgr, S, H₂⟩ := H₂
    replace hG := hG.trans hgr
    have swb := S.wb
    refine (H₂.walk (K' := fun g w => Head2 (.slice (some ⟨b.wb, 0, none⟩) b.ks.length ncap) (.slice (some ⟨p, o, none⟩) ps.length cap) ps.length (j + 1) b.wg b.ev cs g ∧ QM t (b.rc e) (t.step i s).en (t.step i s).m (t.step i s).E w) (ms_stb S) fun g w hK => ⟨0 + 7, ?_⟩).bind fun m₃ T₃ H₃ => ?_
    · obtain ⟨rfl, hQ⟩ := hK
      exact p_next (Q := QM t (b.rc e) (t.step i s).en (t.step i s).m (t.step i s).E) (R := Ext (b.rc e).V) (X := (b.rc e).X True) (fun w w' h r => qm_rl S H.O w w' h r) hjl hn cs w hQ T' a1 a2 a3 a4 a5 a6 a7 fun g w hg h => Goes.stop fun w' r => ⟨hg, qm_rl S H.O w w' h r⟩
    · exact picks_loop H hpv hps hn hpk hsp d (j + 1) (by omega) e _ _ _ hG S (bd_step H.O hin hp) H₃

/-- ONE WORKER TO ITS END. -/
theorem drain_loop [Ref] {Kb : Nat} (H : Cl t b e₀ Kb) {wk : Value} {k : Nat} {r : Wk} (hk : b.ks[k]? = some r) {cs : List Frame} :
    ∀ (f : Nat) (e : Re) (s : Sst t) (m : Machine) (T : Trace), Grow b e₀ e → Rs (b.rc e) → (t.rk k (s.loc k) < f ∨ s.en k = true) → t.Bd b.ks.length Kb s → MS t (b.rc e) s (Head4 wk b.ks.length k b.wg b.ev r.bs cs) m T →
      Lands Try.prog m T (fun m' T' => ∃ e, Grow b e₀ e ∧ Rs (b.rc e) ∧ MS t (b.rc e) (itr (t.step k) f s) (Head3 wk b.ks.length (k + 1) b.wg b.ev cs) m' T') := by
  have hlt : k < b.ks.length := (List.getElem?_eq_some_iff.1 hk).1
  have out : ∀ (e : Re) (s : Sst t) (m : Machine) (T : Trace), Grow b e₀ e → Rs (b.rc e) → s.en k = true → MS t (b.rc e) s (Head4 wk b.ks.length k b.wg b.ev r.bs cs) m T → Lands Try.prog m T (fun m' T' => ∃ e, Grow b e₀ e ∧ Rs (b.rc e) ∧ MS t (b.rc e) s (Head3 wk b.ks.length (k + 1) b.wg b.ev cs) m' T') := by
    intro e s m T hG S he HM
    have rbs := S.rng r (mem_of_get hk) r.bs (by simp [Wk.blocks])
    have hsh : ∀ i, ¬ ((b.rc e).X True).Sh (.cell ⟨r.bs, i, none⟩) := fun i => S.nsh rbs.1 rbs.2.1 rbs.2.2.1 rfl
    refine Lands.mono (A := MS t (b.rc e) s (Head3 wk b.ks.length (k + 1) b.wg b.ev cs)) ?_ fun m' T' h => ⟨e, hG, S, h⟩
    refine Held.walk HM (ms_stb S) fun g w hK => ⟨0 + 17, ?_⟩
    refine r_out (Q := QM t (b.rc e) s.en s.m s.E) (R := Ext (b.rc e).V) (X := (b.rc e).X True) (bs := r.bs) (fun w w' h r => qm_rl S H.O w w' h r) hlt H.n63 (fun w h => ?_) hsh cs g w hK.2 hK.1 fun g w hg h => Goes.stop fun w' r => ⟨hg, qm_rl S H.O w w' h r⟩
    have := (h.1.wk k r hk).hbs
    rw [he] at this
    simp [World.cell?, this]
  intro f
  induction f with
  | zero =>
    intro e s m T hG S hf _ HM
    rcases hf with hf | hf
    · omega
    · exact out e s m T hG S hf HM
  | succ f ih =>
    intro e s m T hG S hf hp HM
    have rbs := S.rng r (mem_of_get hk) r.bs (by simp [Wk.blocks])
    have hsh : ∀ i, ¬ ((b.rc e).X True).Sh (.cell ⟨r.bs, i, none⟩) := fun i => S.nsh rbs.1 rbs.2.1 rbs.2.2.1 rfl
    cases he : s.en k with
    | true =>
      rw [itr_id (step_id he)]
      exact out e s m T hG S he HM
    | false =>
      rw [itr]
      refine (Held.walk (K' := fun g w => ∃ T : Array Value, (T.size = 79 ∧ T[6]? = some (pb b.ev) ∧ T[8]? = some (pb b.wg) ∧ T[63]? = some wk ∧ T[64]? = some (.int .i64 b.ks.length) ∧ T[65]? = some (.int .i64 k) ∧ T[15]? = some (pb r.bs)) ∧
        g = inS r.bs ((base 10).at ⟨T, []⟩ (.inRegion (opsOf (inner (rt rnd4))) [1] :: [.inBlock 7, .inLoop rnd4, .inBlock 6, .inBlock 5, .code (rt (rt (rt rnd3))), .inLoop rnd3, .inBlock 4, .code cd10]) :: cs) ∧ QM t (b.rc e) s.en s.m s.E w) HM (ms_stb S) fun g w hK => ⟨30, ?_⟩).bind fun m₁ T₁ H₁ => ?_
      · refine goes_imp (fun _ _ x => x) (fun _ _ _ x => x) (fun g w h => ?_) (r_step (Q := QM t (b.rc e) s.en s.m s.E) (R := Ext (b.rc e).V) (X := (b.rc e).X True) (bs := r.bs) (fun w w' h r => qm_rl S H.O w w' h r) (fun w h => ?_) hsh cs g w hK.2 hK.1)
        · obtain ⟨h1, T, a1, a2, a3, a4, a5, a6, a7, a8⟩ := h
          exact ⟨T, ⟨a1, a2, a3, a4, a5, a6, a7⟩, a8, h1⟩
        · have := (h.1.wk k r hk).hbs
          rw [he] at this
          simp [World.cell?, this]
      obtain ⟨T', H₁⟩ := H₁.ex
      obtain ⟨⟨a1, a2, a3, a4, a5, a6, a7⟩, H₁⟩ := H₁.and
      refine (step_turn (c := b.rc e) S H.O (H.e hp) hp.2 (H.tn k hlt) hG hk H₁).bind fun m₂ T₂ H₂ => ?_
      obtain ⟨e, hgr, S, H₂⟩ := H₂
      replace hG := hG.trans hgr
      refine (H₂.walk (K' := fun g w => Head4 wk b.ks.length k b.wg b.ev r.bs cs g ∧ QM t (b.rc e) (t.step k s).en (t.step k s).m (t.step k s).E w) (ms_stb S) fun g w hK => ⟨0 + 3, ?_⟩).bind fun m₃ T₃ H₃ => ?_
      · obtain ⟨rfl, hQ⟩ := hK
        exact r_next (Q := QM t (b.rc e) (t.step k s).en (t.step k s).m (t.step k s).E) (R := Ext (b.rc e).V) (X := (b.rc e).X True) (fun w w' h r => qm_rl S H.O w w' h r) cs w hQ T' a1 a2 a3 a4 a5 a6 a7 fun g w hg h => Goes.stop fun w' r => ⟨hg, qm_rl S H.O w w' h r⟩
      · refine ih e _ _ _ hG S ?_ (bd_step H.O hlt hp) H₃
        have := itr_ended H.O k 1 s
        unfold Tasks.step
        rw [he]
        simp only [Bool.false_eq_true, if_false]
        cases hx : t.next k (s.loc k) s.m with
        | mk m' o =>
          cases o with
          | none => exact .inr (upd_same _ _ _)
          | some y =>
            obtain ⟨x, l'⟩ := y
            refine .inl ?_
            have h1 := H.O.rk _ _ _ _ _ _ hx
            show t.rk k (upd s.loc k l' k) < f
            rw [upd_same]
            rcases hf with h | h
            · omega
            · rw [he] at h; cases h
/-- ALL WORKERS TO THEIR ENDS. -/
theorem drains_loop [Ref] {Kb : Nat} (H : Cl t b e₀ Kb) {ncap : Nat} {cs : List Frame} :
    ∀ (d k : Nat), k + d = b.ks.length → ∀ (e : Re) (s : Sst t) (m : Machine) (T : Trace), Grow b e₀ e → Rs (b.rc e) → (∀ i, i < k → s.en i = true) → t.Bd b.ks.length Kb s → MS t (b.rc e) s (Head3 (.slice (some ⟨b.wb, 0, none⟩) b.ks.length ncap) b.ks.length k b.wg b.ev cs) m T →
      Lands Try.prog m T (fun m' T' => ∃ e, Grow b e₀ e ∧ Rs (b.rc e) ∧ (∀ i, i < b.ks.length → (t.drains (List.range' k d) s).en i = true) ∧ MS t (b.rc e) (t.drains (List.range' k d) s) (AtWait b.wg b.ev cs) m' T')
  | 0, k, hj, e, s, m, T, hG, S, hen, hp, HM => by
    obtain rfl : k = b.ks.length := by omega
    refine (Held.walk HM (ms_stb S) fun g w hK => ⟨20, ?_⟩).mono fun m' T' h => ⟨e, hG, S, hen, h⟩
    exact r_end (Q := QM t (b.rc e) s.en s.m s.E) (R := Ext (b.rc e).V) (X := (b.rc e).X True) (fun w w' h r => qm_rl S H.O w w' h r) cs g w hK.2 hK.1
  | d + 1, k, hj, e, s, m, T, hG, S, hen, hp, HM => by
    have hlt : k < b.ks.length := by omega
    obtain ⟨r, hk⟩ : ∃ r, b.ks[k]? = some r := ⟨_, List.getElem?_eq_getElem hlt⟩
    have swb := S.wb
    refine (Held.walk (K' := fun g w => Head4 (.slice (some ⟨b.wb, 0, none⟩) b.ks.length ncap) b.ks.length k b.wg b.ev r.bs cs g ∧ QM t (b.rc e) s.en s.m s.E w) HM (ms_stb S) fun g w hK => ⟨0 + 17, ?_⟩).bind fun m₁ T₁ H₁ => ?_
    · exact r_in (Q := QM t (b.rc e) s.en s.m s.E) (R := Ext (b.rc e).V) (X := (b.rc e).X True) (fun w w' h r => qm_rl S H.O w w' h r) hlt (fun w h => wb_cell S h.1 hk) (fun k => S.nsh swb.1 swb.2.1 swb.2.2.1 rfl) cs g w hK.2 hK.1 fun g w hg h => Goes.stop fun w' r => ⟨hg, qm_rl S H.O w w' h r⟩
    refine (drain_loop H hk (t.rk k (s.loc k) + 1) e s _ _ hG S (.inl (by omega)) hp H₁).bind fun m₂ T₂ H₂ => ?_
    obtain ⟨e, hG, S, H₂⟩ := H₂
    rw [List.range'_succ]
    refine drains_loop H d (k + 1) (by omega) e (t.drain k s) m₂ T₂ hG S (fun i hi => ?_) (bd_itr H.O hlt _ hp) H₂
    by_cases e : i = k
    · subst e; exact itr_ended H.O i _ s (.inl (by omega))
    · exact itr_keep k i _ s (hen i (by omega))
end
end

/-! ### NwY5 -/
section
set_option linter.unusedSimpArgs false
open Go Go.Conc Go.RowKit Go.ConcR.Gen Cw
open Go.ConcN (sumTo upd upd_same upd_ne sumTo_upd sumTo_congr le_sumTo WgLive)

/-- What idle steps keep. -/
theorem goes_keep {P : Program} {main : Bool} {R : World → World → Prop} {D : World → World → Array Event → Prop} {S : Goroutine → World → Prop} {Q : World → Prop} (hD : ∀ w w' es, D w w' es → Q w → Q w') (hR : ∀ w w', R w w' → Q w → Q w') (hrr : ∀ w, R w w) :
    ∀ {n : Nat} {g : Goroutine} {w : World}, Q w → Goes P main R D S n g w → Goes P main R D (fun g w => S g w ∧ Q w) n g w
  | 0, g, w, hQ, h => fun w₁ h₁ => ⟨h w₁ h₁, hR _ _ h₁ hQ⟩
  | n + 1, g, w, hQ, h => by
    rcases h with h | ⟨hs, h⟩
    · exact .inl fun w₁ h₁ => ⟨h w₁ h₁, hR _ _ h₁ hQ⟩
    · refine .inr ⟨hs, fun w₁ h₁ => ?_⟩
      have := h w₁ h₁
      cases e : stepG P main g w₁ with
      | go g' w' es => rw [e, goes_go] at this; exact ⟨this.1, goes_keep hD hR hrr (hD _ _ _ this.1 (hR _ _ h₁ hQ)) this.2⟩
      | _ => rw [e] at this; exact this.elim

set_option maxRecDepth 100000 in
set_option maxHeartbeats 2000000 in
theorem t_wait0 {mn : Bool} {R : World → World → Prop} {wg ev : Nat} (cs : List Frame) (g : Goroutine) (w : World) (hg : AtWait wg ev cs g) :
    Goes Try.prog mn R Cw.D0 (fun g _ => InWait mn wg ev cs g) 6 g w := by
  obtain ⟨T, hT, h6, h8, rfl⟩ := hg
  replace h8 := getD_of h8
  refine Goes.step rfl (fun w hr => ?_)
  clear hr
  obtain ⟨ps, ho⟩ : ∃ ps, (opsOf (lf cd10))[0]? = some { dst := some 77, op := .call { callee := .value (.func 24), args := #[.tmp 8], argTypes := #[66] }, type := 0, pos := ps, after := #[], guard := none } := by
    refine ⟨(((opsOf (lf cd10))[0]?).map (fun o => o.pos)).getD "", ?_⟩
    simp only [cd10, cd9, cd8, bodyM, inner, rt, lf, opsOf, Try.f10, Option.getD_some]
    rfl
  refine goes_call (c := Go.ConcR.Gen.body_wait link) (f := 24) (args := #[.tmp 8]) (ats := #[66]) ho rfl (by k_ne) rfl wgLib.f_wait rfl rfl ⟨⟨rfl, rfl⟩, ?_⟩
  have := goes_imp (R := R) (R' := R) (fun _ _ x => x) (fun _ _ _ x => x) (fun g w h => (⟨T, hT, h6, h⟩ : InWait mn wg ev cs g)) (wait_start (Wg := wg) (b₀ := base 10) (a₀ := ⟨T, []⟩) (ops₀ := opsOf (lf cd10)) (i₀ := 0) (rest₀ := []) (k₀ := [.code (rt cd10)]) (cs := cs) wgLib (R := R) w)
  refine Goes.mono (n := 3) ?_ (by omega)
  simp only [show (Go.Conc.Lib.waitFn link).ntmps = 84 from rfl, List.map_toArray, List.map_cons, List.map_nil, Act.eval, h8, List.size_toArray, List.length_cons, List.length_nil, Nat.reduceAdd, Nat.reduceSub, Array.replicate_succ, Array.replicate_zero, List.push_toArray, List.append_toArray, List.nil_append, List.cons_append]
  exact this

theorem hd_mark (X : Cx) (w : World) {m : Mark} (h : (MemAct.mark m).touch? = none) (hr : ∀ a, m ≠ .release a) (hl : (MemAct.mark m).low w.heap.size) : HD X w w #[Go.ConcR.mk m] := by
  refine ⟨Env.refl X w, fun _ _ => rfl, fun _ _ => rfl, fun e he => ?_⟩
  simp only [List.mem_toArray, List.mem_cons, List.not_mem_nil, or_false] at he
  subst he
  refine ⟨fun x hx => ?_, fun a e => hr a (Loc.mark.inj e), hl⟩
  rw [show MemAct.ofEvent (Go.ConcR.mk m) = .mark m from rfl, h] at hx
  cases hx
theorem d0_hdq (X : Cx) : ∀ (w w' : World) (es : Array Event), Cw.D0 w w' es → HDq X w w' es := fun w w' es h => by obtain ⟨rfl, rfl⟩ := h; exact hdq_idle X _
theorem live_ext {V : Nat → Prop} {ty : TypeId} {wg : Nat} {w w' : World} (hv : ¬ V wg) (r : Ext V w w') : RLive ty wg w w' := by
  rintro ⟨st, sm, h⟩
  refine ⟨st, sm, ?_⟩
  unfold Go.ConcR.WgAt at h ⊢
  rw [r.same _ (Array.getElem?_eq_some_iff.1 h).1 hv]
  exact h

abbrev Gone (B : Nat → By) (_ : Nat → Nat) : Prop := ∀ i, i ≠ 0 → B i = .gone
theorem gone_stb : Stb 0 Gone := fun B cn B' cn' hB hl i hi => by
  rcases hl.le i with e | ⟨⟨s, e⟩, _⟩
  · rw [e]; exact hB i hi
  · rw [hB i hi] at e; cases e
/-- The run's own goroutines only leave. -/
def ByE (c : Rc) (B : Nat → By) (cn : Nat → Nat) : Prop := c.FB B cn ∧ ∀ j, c.γ ≤ j → B j = .gone
theorem bye_stb {c : Rc} (S : Rs c) : Stb c.h (ByE c) := fun B cn B' cn' hB hl => ⟨S.fb.st c.h B cn B' cn' (.inl rfl) hB.1 hl, fun j hj => by
  rcases hl.le j with e | ⟨⟨s, e⟩, _⟩
  · rw [e]; exact hB.2 j hj
  · rw [hB.2 j hj] at e; cases e⟩
/-- Nobody turns anything. -/
abbrev Vn : Nat → Prop := fun _ => False
section
variable {t : Tasks} {c : Rc} {s : Sst t}
/-- What a call leaves in memory. -/
def Left (t : Tasks) (c : Rc) (s : Sst t) (u : Value) (w : World) : Prop := t.Tm s.m w ∧ w.cell? ⟨c.ev, 0, none⟩ = some u ∧ w.ownsRow c.N₀ 40 2 u s.E.length (evCells s.E) ∧ c.B₀ ≤ w.heap.size ∧ WgLive link.tWg c.wg w ∧ (∀ a, c.Sh (.cell a) → a.block < c.N₀ ∨ a.block = c.wg ∨ ∃ st sm, Go.ConcR.WgAt link.tWg a.block w st sm) ∧ ∀ g, u.ownBlock = some g → ∀ a : Addr, a.block = g → ¬ c.Sh (.cell a)
theorem left_rl (S : Rs c) (O : TasksOk t c.N₀ c.FV) {u : Value} {w w' : World} (h : Left t c s u w) (r : Ext c.FV w w') : Left t c s u w' := by
  obtain ⟨h1, h2, h3, h4, h5, h6, h7⟩ := h
  have := S.lt
  exact ⟨O.old _ w w' (fun b hb hv => r.same b (by omega) hv) h1, by rw [cell_of_block (r.same _ (block_of_cell h2) (S.nfv S.ev.1))]; exact h2, ownsRow_ext h3 r fun g hg => S.nfv (h3.lt g hg).1, Nat.le_trans h4 r.size, live_ext (V := c.FV) (S.nfv S.wg.1) r h5, shg_to h6 fun b st sm _ hn hg h => r.same b (Array.getElem?_eq_some_iff.1 h).1 (S.nfv hn), h7⟩
theorem left_of (S : Rs c) {w : World} {u : Value} (h : WI c t.tv s.en (t.Tm s.m) w) (hu : Evs (c.X True) c.V c.ev s.E u w) (hl : WgLive link.tWg c.wg w) : Left t c s u w := by
  refine ⟨h.tm, by simp [World.cell?, hu.cell], ⟨hu.row.1, ?_⟩, h.size, hl, h.shg, fun g hg a ha => (hu.ok g hg).sh a ha⟩
  rcases hu.row.2 with hn | ⟨g, cap, cur, rfl, hb, rest⟩
  · exact .inl hn
  · refine .inr ⟨g, cap, cur, rfl, ?_, rest⟩
    have := (hu.ok g rfl).ex
    have h2 : ¬ g < c.N₀ := this
    omega
/-- THE WAIT, AND THE RETURN. -/
theorem run_tail [Ref] (S : Rs c) (O : TasksOk t c.N₀ c.FV) (hen : ∀ i, i < c.ks.length → s.en i = true) {b₀ : Frame} {a₀ : Act} {ops : Array Oper} {j : Nat} {rest : List Nat} {kk : List Item} {cs : List Frame} {m : Machine} {T : Trace}
    (HM : MS t c s (AtWait c.wg c.ev (b₀.at a₀ (.inRegion ops (j :: rest) :: kk) :: cs)) m T) :
    Lands Try.prog m T (Held Try.prog (c.X False) c.FV c.h 0 c.n (ByE c) (fun g w => ∃ u, g = G (b₀.at (a₀.put ((ops[j]?).bind (·.dst)) (.tuple #[u, .int .i64 0])) (.inRegion ops rest :: kk)) cs ∧ Left t c s u w)) := by
  have hon : (c.X True).on c.wg := .inr ⟨trivial, rfl⟩
  -- into Wait
  refine (Held.walk (K' := fun g w => InWait (c.h == 0) c.wg c.ev (b₀.at a₀ (.inRegion ops (j :: rest) :: kk) :: cs) g ∧ QM t c s.en s.m s.E w) HM (ms_stb S) fun g w hK => ⟨6, ?_⟩).bind fun m₁ T₁ H₁ => ?_
  · exact goes_imp (fun _ _ x => x) (d0_hdq _) (fun _ _ x => x) (goes_keep (Q := QM t c s.en s.m s.E) (fun w w' es h hq => by obtain ⟨rfl, _⟩ := h; exact hq) (fun w w' r hq => qm_rl S O w w' hq r) (fun w => Ext.refl _ w) hK.2 (t_wait0 (R := Ext c.V) _ g w hK.1))
  -- disable
  refine (H₁.one (dh' := 1) (K' := fun g w => (∃ T : Array Value, T.size = 79 ∧ T[6]? = some (pb c.ev) ∧ (WgLive link.tWg c.wg w → ∃ m, Goes Try.prog (c.h == 0) (RLive link.tWg c.wg) Cw.D0 (Go.ConcN.Gen.AnchWN link (fun _ => True) c.wg ((base 10).at ⟨T, []⟩ (.inRegion (opsOf (lf cd10)) [0] :: [.code (rt cd10)])) (b₀.at a₀ (.inRegion ops (j :: rest) :: kk) :: cs)) m g w)) ∧ QM t c s.en s.m s.E w) (ms_stb S) fun g w hK => ?_).bind fun m₂ T₂ H₂ => ?_
  · obtain ⟨⟨T, hT, h6, hrun, hst⟩, hQ⟩ := hK
    refine ⟨hrun, fun w₁ r => ?_⟩
    obtain ⟨g', hs, hg⟩ := hst w₁
    exact ⟨g', w₁, _, hs, hd_mark _ _ rfl (by simp) trivial, rfl, ⟨T, hT, h6, hg⟩, qm_rl S O w w₁ hQ r⟩
  obtain ⟨gs, w, sl, q, Rd, B, cn, g, rfl, hn, hg, ⟨⟨T', hT', h6, hgo⟩, hQ⟩, hB, C⟩ := H₂
  have hwi : ∀ i, (c.X True).wg i = c.wg → c.γ ≤ i := fun i e => Nat.le_of_not_lt fun hlt => S.fwg i hlt (by rw [← e]; exact (if_neg (Nat.not_le_of_lt hlt)).symm)
  have hns : ∀ i, i ≠ c.h → (c.X True).wg i = c.wg → ∀ c' z home, B i ≠ .seat c' z home := by
    intro i hi hw c' z home e
    have h0 := hwi i hw
    by_cases h1 : c.γ + c.ks.length ≤ i
    · rw [hB.2.1 i h1] at e; cases e
    · obtain ⟨k', rfl⟩ : ∃ k', i = c.γ + k' := ⟨i - c.γ, by omega⟩
      obtain ⟨r', hk'⟩ : ∃ r', c.ks[k']? = some r' := ⟨_, List.getElem?_eq_getElem (show k' < c.ks.length by omega)⟩
      rcases (hB.2.2 k' r' hk' (by simp)).2 (hen k' (by omega)) with e' | ⟨j, e'⟩ <;> rw [e'] at e <;> cases e
  obtain ⟨mm, hG⟩ := hgo (C.mdok c.wg hon).wg
  obtain ⟨N, m₃, T₃, hr₃, hend⟩ := (C.crew.toD (b0 := c.wg) hon (.inl rfl) hns (fun e => by have := hwi _ e; have := S.one; omega)).wait (sl := sl) (Anch := Go.ConcN.Gen.AnchWN link (fun _ => True) c.wg ((base 10).at ⟨T', []⟩ (.inRegion (opsOf (lf cd10)) [0] :: [.code (rt cd10)])) (b₀.at a₀ (.inRegion ops (j :: rest) :: kk) :: cs))
    (Fin := AtE (c.h == 0) (base 10) ⟨T', []⟩ (opsOf (lf cd10)) 0 [] [.code (rt cd10)] (b₀.at a₀ (.inRegion ops (j :: rest) :: kk) :: cs) Try.prog link.tWg c.wg)
    (fun g w h => wait_round wgLib g w h) (fun g w h => by obtain ⟨T, rfl, _⟩ := h; rfl) (fun g w h => h.1) hg hG
  refine Lands.bind ⟨N, m₃, T₃, hr₃, hend⟩ fun m₄ T₄ hend => ?_
  obtain ⟨gs₁, a₁, w₁, sl₁, q₁, Rd₁, B₁, cn₁, md₁, rfl, hsz, ha₁, hF, hext, henv, hlat, hgone, hwg, CD⟩ := hend
  have hQ₁ := qm_rl S O w w₁ hQ hext
  obtain ⟨hI, u, hu⟩ := hQ₁
  have hL := left_of S hI hu ⟨_, _, hwg⟩
  have hB₁ := hB.later S (.inl rfl) hlat
  have hbye : ByE c B₁ cn₁ := ⟨hB₁.1, fun j hj => hgone j (by have := S.one; omega) (if_pos hj)⟩
  have hnw : ∀ i s, i ≠ c.h → B₁ i = .dn s → c.Fon ((c.X True).wg i) ∧ (c.X True).wg i ≠ c.wg := fun i s hi e => by
    have hne : (c.X True).wg i ≠ c.wg := fun hw => by rw [hgone i hi hw] at e; cases e
    have hil : i < gs₁.size := by
      refine Classical.byContradiction fun hn => ?_
      have := (CD.m.out i (by omega)).2.2
      rw [e] at this; cases this
    have hid := CD.m.idle i _ hi (Array.getElem?_eq_getElem hil)
    rw [e] at hid
    exact ⟨hid.2.1.resolve_right fun h => hne h.2, hne⟩
  have C₂ : Crew Try.prog (c.X False) c.FV c.h 1 B₁ Rd₁ cn₁ T₄ gs₁ w₁ q₁ := by
    refine CD.m.recast (X' := c.X False) (V' := c.FV) (cn' := cn₁) (fun a h => h) rfl rfl rfl (fun a h => h) rfl (fun a ha => ⟨fun o => (CD.m.st a ha).2.1 (.inl (o.resolve_right fun h => h.1)), (CD.m.st a ha).2.2⟩) (fun x hx hv => CD.m.volC x hx (.inr hv)) (fun a o => CD.m.sh a (.inl (o.resolve_right fun h => h.1)))
      (fun i s hi e => ⟨rfl, .inl (hnw i s hi e).1, (CD.m.volD i s hi e).resolve_left (hnw i s hi e).2⟩) (fun b o => ?_)
    have hb : b ≠ c.wg := fun e => by have := S.fon b (o.resolve_right fun h => h.1); have := S.wg; omega
    have h1 := CD.m.mdok b (.inl (o.resolve_right fun h => h.1))
    rw [upd_ne _ _ hb] at h1
    exact ⟨h1, CD.m.few b (.inl (o.resolve_right fun h => h.1))⟩
  have H₃ : Held Try.prog (c.X False) c.FV c.h 1 c.n (ByE c) (fun g w => AtE (c.h == 0) (base 10) ⟨T', []⟩ (opsOf (lf cd10)) 0 [] [.code (rt cd10)] (b₀.at a₀ (.inRegion ops (j :: rest) :: kk) :: cs) Try.prog link.tWg c.wg g w ∧ WgLive link.tWg c.wg w ∧ Left t c s u w) (crowd gs₁ w₁ sl₁) T₄ :=
    ⟨gs₁, w₁, sl₁, q₁, _, B₁, cn₁, a₁, rfl, hsz.trans hn, ha₁, ⟨hF, ⟨_, _, hwg⟩, hL⟩, hbye, ⟨C₂, C.sys.of henv.io⟩⟩
  have hlt : ∀ w, WgLive link.tWg c.wg w → c.wg < w.heap.size := fun w ⟨_, _, h⟩ => (Array.getElem?_eq_some_iff.1 h).1
  -- enable
  refine (H₃.one (dh' := 0) (K' := fun g w => (∃ m, Goes Try.prog (c.h == 0) (RLive link.tWg c.wg) Cw.D0 (AtQ (c.h == 0) (base 10) ⟨T', []⟩ (opsOf (lf cd10)) 0 [] [.code (rt cd10)] (b₀.at a₀ (.inRegion ops (j :: rest) :: kk) :: cs) Try.prog link.tWg c.wg) m g w) ∧ WgLive link.tWg c.wg w ∧ Left t c s u w) (bye_stb S) fun g w hK => ?_).bind fun m₅ T₅ H₅ => ?_
  · obtain ⟨⟨hrun, hst⟩, hlv, hL⟩ := hK
    refine ⟨hrun, fun w₁ r => ?_⟩
    have hlv₁ := live_ext (V := c.FV) (S.nfv S.wg.1) r hlv
    obtain ⟨g', hs, hg⟩ := hst w₁ hlv₁
    exact ⟨g', w₁, _, hs, hd_mark _ _ rfl (by simp) trivial, rfl, hg, hlv₁, left_rl S O hL r⟩
  have hkeep : ∀ {St : Goroutine → World → Prop} {m : Nat} {g : Goroutine} {w : World}, WgLive link.tWg c.wg w ∧ Left t c s u w → Goes Try.prog (c.h == 0) (RLive link.tWg c.wg) Cw.D0 St m g w → Goes Try.prog (c.h == 0) (Ext c.FV) (HDq (c.X False)) (fun g w => St g w ∧ WgLive link.tWg c.wg w ∧ Left t c s u w) m g w := fun hQ h =>
    goes_imp (R := Ext c.FV) (fun _ _ x => x) (d0_hdq _) (fun _ _ x => x) (goes_keep (D := Cw.D0) (Q := fun w => WgLive link.tWg c.wg w ∧ Left t c s u w) (fun w w' es h hq => by obtain ⟨rfl, _⟩ := h; exact hq) (fun w w' r hq => ⟨live_ext (V := c.FV) (S.nfv S.wg.1) r hq.1, left_rl S O hq.2 r⟩) (fun w => Ext.refl _ w) hQ
      (goes_imp (fun _ _ r => live_ext (V := c.FV) (S.nfv S.wg.1) r) (fun _ _ _ x => x) (fun _ _ x => x) h))
  refine (H₅.walk (K' := fun g w => AtQ (c.h == 0) (base 10) ⟨T', []⟩ (opsOf (lf cd10)) 0 [] [.code (rt cd10)] (b₀.at a₀ (.inRegion ops (j :: rest) :: kk) :: cs) Try.prog link.tWg c.wg g w ∧ WgLive link.tWg c.wg w ∧ Left t c s u w) (bye_stb S) fun g w hK => ?_).bind fun m₆ T₆ H₆ => ?_
  · obtain ⟨⟨mm, hG⟩, hQ⟩ := hK
    exact ⟨mm, hkeep hQ hG⟩
  -- acquire
  refine (H₆.one (dh' := 0) (K' := fun g w => (∃ m, Goes Try.prog (c.h == 0) (RLive link.tWg c.wg) Cw.D0 (Back (base 10) ⟨T', []⟩ (opsOf (lf cd10)) 0 [] [.code (rt cd10)] (b₀.at a₀ (.inRegion ops (j :: rest) :: kk) :: cs)) m g w) ∧ WgLive link.tWg c.wg w ∧ Left t c s u w) (bye_stb S) fun g w hK => ?_).bind fun m₇ T₇ H₇ => ?_
  · obtain ⟨⟨hrun, hst⟩, hlv, hL⟩ := hK
    refine ⟨hrun, fun w₁ r => ?_⟩
    have hlv₁ := live_ext (V := c.FV) (S.nfv S.wg.1) r hlv
    obtain ⟨g', hs, hg⟩ := hst w₁ hlv₁
    exact ⟨g', w₁, _, hs, hd_mark _ _ rfl (by simp) (hlt w₁ hlv₁), rfl, hg, hlv₁, left_rl S O hL r⟩
  refine (H₇.walk (K' := fun g w => g = G ((base 10).at (Act.put ⟨T', []⟩ (((opsOf (lf cd10))[0]?).bind (·.dst)) (.tuple #[])) (.inRegion (opsOf (lf cd10)) [] :: [.code (rt cd10)])) (b₀.at a₀ (.inRegion ops (j :: rest) :: kk) :: cs) ∧ Left t c s u w) (bye_stb S) fun g w hK => ?_).bind fun m₈ T₈ H₈ => ?_
  · obtain ⟨⟨mm, hG⟩, hQ⟩ := hK
    exact ⟨mm, goes_imp (fun _ _ x => x) (fun _ _ _ x => x) (fun g w h => ⟨h.1, h.2.2⟩) (hkeep hQ hG)⟩
  -- the return
  have hsl : ∃ a n c, u = .slice a n c := by
    rcases hL.2.2.1.2 with ⟨h, _⟩ | ⟨g, cap, _, h, _⟩
    · exact ⟨_, _, _, h⟩
    · exact ⟨_, _, _, h⟩
  refine H₈.walk (bye_stb S) fun g w hK => ⟨0 + 9, ?_⟩
  obtain ⟨rfl, hL⟩ := hK
  exact t_ret (Q := Left t c s u) (R := Ext c.FV) (X := c.X False) (fun w w' h r => left_rl S O h r) u (fun w h => h.2.1) (S.nsh (on := False) S.ev.1 S.ev.2.1 S.ev.2.2 rfl) hsl cs w hL T' hT' h6 fun w h => Goes.stop fun w' r => ⟨u, rfl, left_rl S O h r⟩
end
end
end Go.Proofs.Ytggfcdhkgldbfaa
