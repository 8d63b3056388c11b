/-
  PLAIN: the atoms of a rule in another order: the same kinds, guards and checks. For the law CheckTurns.
-/
import Derived.Test.YtgeapgbebbapmaaLwT
namespace Go.Proofs.Ytgeapgbebbapmaa

/-- An atom has the kinds that F tells. -/
def fits (S : List Sch) (F : Str → Option Int) (a : Atm) : Prop :=
  ∃ s, findS S a.rel = some s ∧ a.ts.length = s.kinds.length ∧ ∀ p ∈ a.ts.zip s.kinds, if p.1.v = [] then p.1.c.k = p.2 else F p.1.v = some p.2
def sub (E : Env) (F : Str → Option Int) : Prop := ∀ v k, getE E v = some k → F v = some k

theorem termT_sound {E E' : Env} {t : Trm} {k : Int} (h : termT E t k = some E') : sub E (getE E') ∧ (if t.v = [] then t.c.k = k else getE E' t.v = some k) := by
  rcases termT_ways E t k with ⟨hv, hk, h2⟩ | ⟨_, _, h2⟩ | ⟨hv, hg, h2⟩ | ⟨_, _, _, _, h2⟩ | ⟨hv, hg, h2⟩
  · rw [h2] at h; injection h with h; subst h
    exact ⟨fun _ _ h => h, by rw [if_pos hv]; exact hk⟩
  · rw [h2] at h; cases h
  · rw [h2] at h; injection h with h; subst h
    exact ⟨fun _ _ h => h, by rw [if_neg hv]; exact hg⟩
  · rw [h2] at h; cases h
  · rw [h2] at h; injection h with h; subst h
    refine ⟨fun v q hq => ?_, by rw [if_neg hv, getE_put hg, if_pos rfl]⟩
    rw [getE_put hg]
    by_cases hvv : v = t.v
    · subst hvv; rw [hg] at hq; cases hq
    · rw [if_neg hvv]; exact hq
theorem termT_full {E : Env} {t : Trm} {k : Int} {F : Str → Option Int} (hs : sub E F) (h : if t.v = [] then t.c.k = k else F t.v = some k) : ∃ E', termT E t k = some E' ∧ sub E' F := by
  rcases termT_ways E t k with ⟨hv, hk, h2⟩ | ⟨hv, hk, h2⟩ | ⟨hv, hg, h2⟩ | ⟨q, hv, hg, hq, h2⟩ | ⟨hv, hg, h2⟩
  · exact ⟨E, h2, hs⟩
  · rw [if_pos hv] at h; exact absurd h hk
  · exact ⟨E, h2, hs⟩
  · rw [if_neg hv, hs _ _ hg] at h
    injection h with h
    exact absurd h hq
  · rw [if_neg hv] at h
    refine ⟨_, h2, fun v q hq => ?_⟩
    rw [getE_put hg] at hq
    by_cases hvv : v = t.v
    · rw [if_pos hvv] at hq
      injection hq with hq
      subst hvv hq
      exact h
    · rw [if_neg hvv] at hq
      exact hs v q hq
theorem sub_trans {E E' : Env} {F : Str → Option Int} (h : sub E (getE E')) (h2 : sub E' F) : sub E F := fun v k hk => h2 v k (h v k hk)
theorem termsT_sound : ∀ {ts : List Trm} {ks : List Int} {E E' : Env}, termsT E ts ks = some E' → sub E (getE E') ∧ ∀ p ∈ ts.zip ks, if p.1.v = [] then p.1.c.k = p.2 else getE E' p.1.v = some p.2
  | [], ks, E, E', h => by
    have : termsT E [] ks = some E := by cases ks <;> rfl
    rw [this] at h
    injection h with h
    subst h
    exact ⟨fun _ _ h => h, fun p hp => by simp at hp⟩
  | t :: ts, [], E, E', h => by
    have : termsT E (t :: ts) [] = some E := rfl
    rw [this] at h
    injection h with h
    subst h
    exact ⟨fun _ _ h => h, fun p hp => by simp at hp⟩
  | t :: ts, k :: ks, E, E', h => by
    rw [termsT] at h
    cases hm : termT E t k with
    | none => rw [hm] at h; cases h
    | some F =>
      rw [hm] at h
      obtain ⟨h1, h2⟩ := termT_sound hm
      obtain ⟨h3, h4⟩ := termsT_sound (ts := ts) (ks := ks) (E := F) h
      refine ⟨sub_trans h1 h3, fun p hp => ?_⟩
      rw [List.zip_cons_cons] at hp
      rcases List.mem_cons.1 hp with rfl | hp
      · by_cases hv : t.v = []
        · rw [if_pos hv] at h2 ⊢; exact h2
        · rw [if_neg hv] at h2 ⊢; exact h3 _ _ h2
      · exact h4 p hp
theorem termsT_full : ∀ {ts : List Trm} {ks : List Int} {E : Env} {F : Str → Option Int}, sub E F → (∀ p ∈ ts.zip ks, if p.1.v = [] then p.1.c.k = p.2 else F p.1.v = some p.2) → ∃ E', termsT E ts ks = some E' ∧ sub E' F
  | [], ks, E, _, hs, _ => ⟨E, by cases ks <;> rfl, hs⟩
  | _ :: _, [], E, _, hs, _ => ⟨E, rfl, hs⟩
  | t :: ts, k :: ks, E, F, hs, h => by
    obtain ⟨E1, h1, h2⟩ := termT_full hs (h (t, k) (by simp))
    obtain ⟨E2, h3, h4⟩ := termsT_full (ts := ts) (ks := ks) h2 fun p hp => h p (by rw [List.zip_cons_cons]; exact List.mem_cons_of_mem _ hp)
    exact ⟨E2, by rw [termsT, h1]; exact h3, h4⟩
theorem atomT_sound {S : List Sch} {E : Env} {a : Atm} (h : (atomT S E a).1 = 0) : sub E (getE (atomT S E a).2) ∧ fits S (getE (atomT S E a).2) a := by
  cases hs : findS S a.rel with
  | none => rw [atomT_none hs] at h; exact absurd h (by decide)
  | some s =>
    by_cases hl : a.ts.length = s.kinds.length
    · cases ht : termsT E a.ts s.kinds with
      | none => rw [atomT_bad hs hl ht] at h; exact absurd h (by decide)
      | some F =>
        rw [atomT_ok hs hl ht]
        obtain ⟨h1, h2⟩ := termsT_sound ht
        exact ⟨h1, s, hs, hl, h2⟩
    · rw [atomT_len hs hl] at h; exact absurd h (by decide)
theorem atomT_full {S : List Sch} {E : Env} {a : Atm} {F : Str → Option Int} (hs : sub E F) (h : fits S F a) : (atomT S E a).1 = 0 ∧ sub (atomT S E a).2 F := by
  obtain ⟨s, h1, h2, h3⟩ := h
  obtain ⟨E', h4, h5⟩ := termsT_full hs h3
  rw [atomT_ok h1 h2 h4]
  exact ⟨rfl, h5⟩
theorem fits_mono {S : List Sch} {F G : Str → Option Int} {a : Atm} (h : ∀ v k, F v = some k → G v = some k) (hf : fits S F a) : fits S G a := by
  obtain ⟨s, h1, h2, h3⟩ := hf
  refine ⟨s, h1, h2, fun p hp => ?_⟩
  have := h3 p hp
  by_cases hv : p.1.v = []
  · rw [if_pos hv] at this ⊢; exact this
  · rw [if_neg hv] at this ⊢; exact h _ _ this
theorem inferT_sound {S : List Sch} : ∀ {l : List Atm} {E : Env}, (inferT S E l).1 = 0 → sub E (getE (inferT S E l).2) ∧ ∀ a ∈ l, fits S (getE (inferT S E l).2) a
  | [], E, _ => ⟨fun _ _ h => h, fun a ha => by simp at ha⟩
  | a :: l, E, h => by
    rw [inferT] at h ⊢
    by_cases h0 : (atomT S E a).1 = 0
    · rw [if_pos h0] at h ⊢
      obtain ⟨h1, h2⟩ := atomT_sound h0
      obtain ⟨h3, h4⟩ := inferT_sound h
      refine ⟨sub_trans h1 h3, fun b hb => ?_⟩
      rcases List.mem_cons.1 hb with rfl | hb
      · exact fits_mono h3 h2
      · exact h4 b hb
    · rw [if_neg h0] at h; exact absurd h h0
theorem inferT_full {S : List Sch} {F : Str → Option Int} : ∀ {l : List Atm} {E : Env}, sub E F → (∀ a ∈ l, fits S F a) → (inferT S E l).1 = 0 ∧ sub (inferT S E l).2 F
  | [], E, hs, _ => ⟨rfl, hs⟩
  | a :: l, E, hs, h => by
    rw [inferT]
    obtain ⟨h1, h2⟩ := atomT_full hs (h a (List.mem_cons_self ..))
    rw [if_pos h1]
    exact inferT_full h2 fun b hb => h b (List.mem_cons_of_mem _ hb)
/-- The kinds do not lean on the atoms' order. -/
theorem inferT_perm {S : List Sch} {l m : List Atm} (hp : ∀ a, a ∈ l ↔ a ∈ m) (h : (inferT S [] l).1 = 0) : (inferT S [] m).1 = 0 ∧ getE (inferT S [] m).2 = getE (inferT S [] l).2 := by
  have h0 : ∀ F, sub [] F := fun F v k h => by simp [getE] at h
  obtain ⟨_, f1⟩ := inferT_sound h
  obtain ⟨h2, s2⟩ := inferT_full (h0 _) (fun a ha => f1 a ((hp a).2 ha))
  obtain ⟨_, f3⟩ := inferT_sound h2
  obtain ⟨_, s4⟩ := inferT_full (h0 _) (fun a ha => f3 a ((hp a).1 ha))
  refine ⟨h2, funext fun v => ?_⟩
  cases hv : getE (inferT S [] m).2 v with
  | some k => exact (s2 v k hv).symm
  | none =>
    cases hw : getE (inferT S [] l).2 v with
    | none => rfl
    | some k => rw [s4 v k hw] at hv; cases hv
theorem firstE_zero_iff {α : Type} {f : α → Int} : ∀ {l : List α}, firstE f l = 0 ↔ ∀ x ∈ l, f x = 0
  | [] => by simp [firstE]
  | x :: l => by
    rw [firstE]
    by_cases h : f x = 0
    · rw [if_pos h, firstE_zero_iff]; simp [h]
    · rw [if_neg h]; simp [h]
theorem guardG_none {l : List Atm} {a : Atm} : guardG l a = none ↔ ∀ b ∈ l, guardsB a b = false := by
  unfold guardG
  rw [List.findIdx?_eq_none_iff]
theorem verifyT_perm {l m : List Atm} {c : List Cnd} {E F : Env} (hp : ∀ a, a ∈ l ↔ a ∈ m) (he : getE F = getE E) : verifyT ⟨m, c⟩ F = 0 ↔ verifyT ⟨l, c⟩ E = 0 := by
  have hk : ∀ v, kindE F v = kindE E v := fun v => by unfold kindE; rw [he]
  have key : ∀ (l : List Atm) (E : Env), verifyT ⟨l, c⟩ E = 0 ↔ (∀ x ∈ c, condT E x = 0) ∧ ∀ a ∈ l, negE l a = 0 := by
    intro l E
    unfold verifyT
    simp only
    by_cases h0 : firstE (condT E) c = 0
    · rw [if_pos h0, firstE_zero_iff]
      exact ⟨fun h => ⟨firstE_zero_iff.1 h0, h⟩, fun h => h.2⟩
    · rw [if_neg h0]
      exact ⟨fun h => absurd h h0, fun h => absurd (firstE_zero_iff.2 h.1) h0⟩
  have hc : ∀ x, condT F x = condT E x := fun x => by unfold condT; rw [hk]
  have hn : ∀ a, negE m a = negE l a := fun a => by
    unfold negE
    have : guardG m a = none ↔ guardG l a = none := by
      rw [guardG_none, guardG_none]
      exact ⟨fun h b hb => h b ((hp b).1 hb), fun h b hb => h b ((hp b).2 hb)⟩
    simp only [this]
  rw [key, key]
  constructor
  · rintro ⟨h1, h2⟩
    exact ⟨fun x hx => by rw [← hc]; exact h1 x hx, fun a ha => by rw [← hn]; exact h2 a ((hp a).1 ha)⟩
  · rintro ⟨h1, h2⟩
    exact ⟨fun x hx => by rw [hc]; exact h1 x hx, fun a ha => by rw [hn]; exact h2 a ((hp a).2 ha)⟩
end Go.Proofs.Ytgeapgbebbapmaa
