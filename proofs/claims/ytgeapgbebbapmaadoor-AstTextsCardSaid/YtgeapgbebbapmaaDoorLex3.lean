/-
  PLAIN: the tokens of a text: what a scan that succeeds says; joined texts; texts of tokens joined again.
-/
import Derived.Test.YtgeapgbebbapmaaDoorLex2
namespace Go.Proofs.YtgeapgbebbapmaaDoor

theorem scan1_nil (a : Int) : scan1 [] a = ([⟨0, [], V0, a⟩], 0, 0) := by rw [scan1]
theorem scan1_white {c : UInt8} (h : whtB c = true) (r : List UInt8) (a : Int) : scan1 (c :: r) a = scan1 r (a + 1) := by rw [scan1, if_pos h]
theorem scan1_bad {r : List UInt8} {a : Int} (hr : r ≠ []) (hw : whtB (r.getD 0 0) = false) (h : (nextL r a).2 ≠ 0) : scan1 r a = ([], a, (nextL r a).2) := by
  match r, hr with
  | c :: r', _ =>
    have hw' : whtB c = false := hw
    rw [scan1, if_neg (by rw [hw']; decide), if_pos h]
theorem scan1_tok {r : List UInt8} {a : Int} {t : Tok} (hr : r ≠ []) (hw : whtB (r.getD 0 0) = false) (h : nextL r a = (t, 0)) :
    scan1 r a = if (scan1 (r.drop t.t.length) (a + t.t.length)).2.2 = 0 then (t :: (scan1 (r.drop t.t.length) (a + t.t.length)).1, 0, 0) else scan1 (r.drop t.t.length) (a + t.t.length) := by
  have hne : t.t ≠ [] := (nextL_ok hr h).2.1
  have hlen : t.t.length ≠ 0 := fun e => hne (List.eq_nil_of_length_eq_zero e)
  match r, hr with
  | c :: r', _ =>
    have hw' : whtB c = false := hw
    rw [scan1, if_neg (by rw [hw']; decide), h, if_neg (by simp), if_neg hlen]

/-- A scan that succeeds. -/
inductive Sc : List UInt8 → Int → List Tok → Prop
  | nil (a : Int) : Sc [] a [⟨0, [], V0, a⟩]
  | white {c : UInt8} {r : List UInt8} {a : Int} {ts : List Tok} (h : whtB c = true) (hs : Sc r (a + 1) ts) : Sc (c :: r) a ts
  | tok {r : List UInt8} {a : Int} {t : Tok} {ts : List Tok} (hr : r ≠ []) (hw : whtB (r.getD 0 0) = false) (h : nextL r a = (t, 0)) (hs : Sc (r.drop t.t.length) (a + t.t.length) ts) : Sc r a (t :: ts)

theorem Sc.ne {l : List UInt8} {a : Int} {ts : List Tok} (h : Sc l a ts) : ts ≠ [] := by
  induction h with
  | nil a => simp
  | white h hs ih => exact ih
  | tok => simp

theorem sc_scan {l : List UInt8} {a : Int} {ts : List Tok} (h : Sc l a ts) : scan1 l a = (ts, 0, 0) := by
  induction h with
  | nil a => exact scan1_nil a
  | white h hs ih => rw [scan1_white h, ih]
  | tok hr hw h hs ih => rw [scan1_tok hr hw h, ih, if_pos rfl]

theorem scan_sc : ∀ (n : Nat) (l : List UInt8) (a : Int), l.length ≤ n → ((scan1 l a).2.2 = 0 → Sc l a (scan1 l a).1 ∧ (scan1 l a).2.1 = 0) ∧ ((scan1 l a).2.2 ≠ 0 → (scan1 l a).1 = [])
  | n, [], a, _ => by rw [scan1_nil]; exact ⟨fun _ => ⟨Sc.nil a, rfl⟩, fun h => absurd rfl h⟩
  | 0, c :: r, a, h => by simp at h
  | n + 1, c :: r, a, hl => by
    by_cases hw : whtB c = true
    · rw [scan1_white hw]
      obtain ⟨h1, h2⟩ := scan_sc n r (a + 1) (by simpa using hl)
      exact ⟨fun h => ⟨Sc.white hw (h1 h).1, (h1 h).2⟩, h2⟩
    · have hw' : whtB ((c :: r).getD 0 0) = false := by simpa using hw
      obtain ⟨⟨t, e⟩, hn⟩ : ∃ p, nextL (c :: r) a = p := ⟨_, rfl⟩
      by_cases he : e = 0
      · subst he
        rw [scan1_tok (by simp) hw' hn]
        have hp := (nextL_ok (by simp) hn).2.1
        obtain ⟨h1, h2⟩ := scan_sc n ((c :: r).drop t.t.length) (a + t.t.length) (by
          have := List.length_pos_iff.2 hp
          rw [List.length_drop]; omega)
        by_cases h0 : (scan1 ((c :: r).drop t.t.length) (a + t.t.length)).2.2 = 0
        · rw [if_pos h0]
          exact ⟨fun _ => ⟨Sc.tok (by simp) hw' hn (h1 h0).1, rfl⟩, fun h => absurd rfl h⟩
        · rw [if_neg h0]
          exact ⟨fun h => absurd h h0, h2⟩
      · rw [scan1_bad (by simp) hw' (by rw [hn]; exact he), hn]
        exact ⟨fun h => absurd h he, fun _ => rfl⟩

theorem scan_ok {l : List UInt8} {a : Int} {ts : List Tok} {q : Int} (h : scan1 l a = (ts, q, 0)) : Sc l a ts ∧ q = 0 := by
  have := (scan_sc l.length l a (Nat.le_refl _)).1 (by rw [h])
  rw [h] at this
  exact this
theorem scan_err {l : List UInt8} {a : Int} {ts : List Tok} {q e : Int} (h : scan1 l a = (ts, q, e)) (he : e ≠ 0) : ts = [] := by
  have := (scan_sc l.length l a (Nat.le_refl _)).2 (by rw [h]; exact he)
  rw [h] at this
  exact this

/-- A token d further on. -/
def Tok.sh (d : Int) (t : Tok) : Tok := ⟨t.k, t.t, t.v, t.a + d⟩
theorem nextL_at {r : List UInt8} {a : Int} {t : Tok} (_hr : r ≠ []) (h : nextL r a = (t, 0)) (b : Int) : nextL r b = (⟨t.k, t.t, t.v, b⟩, 0) := by
  have lit : ∀ k x, litTok k x a = (t, 0) → litTok k x b = (⟨t.k, t.t, t.v, b⟩, 0) := by
    intro k x hh
    obtain ⟨h1, h2⟩ := litTok_ok hh
    unfold litTok
    rw [h1, if_pos rfl]
    have e1 : t.k = k := by rw [h2]
    have e2 : t.t = x := by rw [h2]
    rw [e1, e2]
  unfold nextL at h ⊢
  split at h
  · rename_i g
    rw [if_pos g]
    unfold wordTok at h ⊢
    split at h
    · rename_i g2
      rw [if_pos g2]
      injection h with h1 _
      subst h1; rfl
    · rename_i g2
      rw [if_neg g2]
      split at h
      · injection h with _ h2; exact absurd h2 (by decide)
      · rename_i g3
        rw [if_neg g3]
        injection h with h1 _
        subst h1; rfl
  · rename_i g
    rw [if_neg g]
    split at h
    · rename_i g2
      rw [if_pos g2]
      exact lit _ _ h
    · rename_i g2
      rw [if_neg g2]
      split at h
      · rename_i g3
        rw [if_pos g3]
        split at h
        · injection h with _ h2; exact absurd h2 (by decide)
        · rename_i n hn
          exact lit _ _ h
      · rename_i g3
        rw [if_neg g3]
        obtain ⟨y, hy, rfl⟩ := symTok_ok h
        unfold symTok
        rw [hy]

theorem Sc.shift {l : List UInt8} {a : Int} {ts : List Tok} (h : Sc l a ts) (d : Int) : Sc l (a + d) (ts.map (Tok.sh d)) := by
  induction h with
  | nil a => exact Sc.nil (a + d)
  | white h hs ih => exact Sc.white h (by rw [show ∀ x : Int, x + d + 1 = x + 1 + d from fun x => by omega]; exact ih)
  | @tok r a t ts hr hw h hs ih =>
    have ha := (nextL_ok hr h).2.2.1
    have e : Tok.sh d t = ⟨t.k, t.t, t.v, a + d⟩ := by unfold Tok.sh; rw [ha]
    rw [List.map_cons, e]
    refine Sc.tok hr hw (nextL_at hr h (a + d)) ?_
    simp only
    rw [show a + d + (t.t.length : Int) = a + t.t.length + d by omega]
    exact ih

/-- Two texts with white space between them. -/
theorem Sc.join {s u : List UInt8} {a : Int} {ts us : List Tok} {c : UInt8} (hc : whtB c = true) (h : Sc s a ts) : Sc u (a + s.length + 1) us → Sc (s ++ c :: u) a (ts.dropLast ++ us) := by
  induction h with
  | nil a => intro hu; exact Sc.white hc (by simpa using hu)
  | @white c' r a ts h hs ih =>
    intro hu
    refine Sc.white h (ih ?_)
    simp only [List.length_cons] at hu
    rw [show a + 1 + (r.length : Int) + 1 = a + ((r.length + 1 : Nat) : Int) + 1 by omega]
    exact hu
  | @tok r a t ts hr hw h hs ih =>
    intro hu
    obtain ⟨hp, hne, _⟩ := nextL_ok hr h
    have hle := hp.length_le
    rw [List.dropLast_cons_of_ne_nil hs.ne, List.cons_append]
    refine Sc.tok (by simp) (by rw [getD0_app hr]; exact hw) (nextL_ext hc u hr h) ?_
    rw [List.drop_append_of_le_length hle]
    refine ih ?_
    rw [List.length_drop]
    rw [show a + (t.t.length : Int) + ((r.length - t.t.length : Nat) : Int) + 1 = a + r.length + 1 by omega]
    exact hu

/-- The texts of tokens, each with white space behind it. -/
def joinT : List Tok → List (List UInt8) → List UInt8
  | [], _ => []
  | t :: ts, [] => t.t ++ 32 :: joinT ts []
  | t :: ts, g :: gs => t.t ++ (g ++ joinT ts gs)
def gapOk (g : List UInt8) : Prop := g ≠ [] ∧ ∀ c ∈ g, whtB c = true

theorem sc_whites : ∀ (g : List UInt8) (r : List UInt8) (a : Int) (ts : List Tok), (∀ c ∈ g, whtB c = true) → Sc r (a + g.length) ts → Sc (g ++ r) a ts
  | [], r, a, ts, _, h => by simpa using h
  | c :: g, r, a, ts, hg, h => by
    refine Sc.white (hg c (by simp)) (sc_whites g r (a + 1) ts (fun x hx => hg x (by simp [hx])) ?_)
    rw [show a + 1 + (g.length : Int) = a + ((c :: g).length : Int) by simp; omega]
    exact h

/-- Alike but for the offset. -/
def Tok.bare (t : Tok) : Int × List UInt8 × V := (t.k, t.t, t.v)

theorem sc_head_ne {r : List UInt8} {a : Int} {t : Tok} (hr : r ≠ []) (hw : whtB (r.getD 0 0) = false) (h : nextL r a = (t, 0)) : t.t ≠ [] ∧ whtB (t.t.getD 0 0) = false := by
  obtain ⟨hp, hne, _⟩ := nextL_ok hr h
  refine ⟨hne, ?_⟩
  rw [List.prefix_iff_eq_take.1 hp, getD_take (List.length_pos_iff.2 hne)]
  exact hw

theorem Sc.back {l : List UInt8} {a : Int} {ts : List Tok} (h : Sc l a ts) : ∀ (gs : List (List UInt8)) (b : Int), (∀ g ∈ gs, gapOk g) → ∃ us, Sc (joinT ts gs) b us ∧ us.map Tok.bare = ts.map Tok.bare := by
  induction h with
  | nil a =>
    intro gs b hg
    refine ⟨[⟨0, [], V0, b + (joinT [⟨0, [], V0, a⟩] gs).length⟩], ?_, rfl⟩
    match gs with
    | [] => exact Sc.white (by decide) (by simpa [joinT] using Sc.nil (b + 1))
    | g :: gs =>
      have e : joinT [⟨0, [], V0, a⟩] (g :: gs) = g ++ [] := by simp [joinT]
      rw [e]
      refine sc_whites g [] b _ (hg g (by simp)).2 ?_
      rw [List.append_nil]
      exact Sc.nil _
  | white h hs ih => exact ih
  | @tok r a t ts hr hw h hs ih =>
    intro gs b hg
    obtain ⟨hne, hw0⟩ := sc_head_ne hr hw h
    have hcut := nextL_cut b hr h
    match gs with
    | [] =>
      obtain ⟨us, h1, h2⟩ := ih [] (b + t.t.length + 1) (by simp)
      refine ⟨⟨t.k, t.t, t.v, b⟩ :: us, ?_, by rw [List.map_cons, List.map_cons, h2]; rfl⟩
      refine Sc.tok (by simp [joinT, hne]) (by rw [joinT, getD0_app hne]; exact hw0) (nextL_ext (by decide) _ hne hcut) ?_
      simp only
      rw [joinT, List.drop_left]
      exact Sc.white (by decide) h1
    | g :: gs =>
      obtain ⟨hg0, hg1⟩ := hg g (by simp)
      obtain ⟨us, h1, h2⟩ := ih gs (b + t.t.length + g.length) (fun x hx => hg x (by simp [hx]))
      refine ⟨⟨t.k, t.t, t.v, b⟩ :: us, ?_, by rw [List.map_cons, List.map_cons, h2]; rfl⟩
      have he : nextL (joinT (t :: ts) (g :: gs)) b = (⟨t.k, t.t, t.v, b⟩, 0) := by
        match g, hg0, hg1 with
        | c :: g', _, hg1 => exact nextL_ext (hg1 c (by simp)) _ hne hcut
      refine Sc.tok (by simp [joinT, hne]) (by rw [joinT, getD0_app hne]; exact hw0) he ?_
      simp only
      rw [joinT, List.drop_left]
      exact sc_whites g _ _ _ hg1 h1

/-- The tokens cover the text s from the offset e on. -/
def Cov (s : List UInt8) : Nat → List Tok → Prop
  | e, [] => e = s.length
  | e, t :: ts => ∃ p : Nat, t.a = p ∧ e ≤ p ∧ p + t.t.length ≤ s.length ∧ (s.drop p).take t.t.length = t.t ∧ (∀ c ∈ (s.drop e).take (p - e), whtB c = true) ∧ (t.k = 0 ↔ ts = []) ∧ (t.t = [] ↔ t.k = 0)
      ∧ ((t.k = 2 ∨ t.k = 3) ∧ parseL t.t = (t.v, 0) ∨ ¬ (t.k = 2 ∨ t.k = 3) ∧ t.v = V0) ∧ Cov s (p + t.t.length) ts

theorem take_more {s : List UInt8} {e p : Nat} {c : UInt8} {r : List UInt8} (he : e ≤ p) (hl : c :: r = s.drop p) : (s.drop e).take (p + 1 - e) = (s.drop e).take (p - e) ++ [c] := by
  have hp : p < s.length := by
    have := congrArg List.length hl
    simp at this; omega
  rw [show p + 1 - e = (p - e) + 1 by omega, List.take_succ_eq_append_getElem (by rw [List.length_drop]; omega)]
  congr 1
  have : (s.drop e)[p - e]'(by rw [List.length_drop]; omega) = s[p] := by
    rw [List.getElem_drop]; congr 1; omega
  rw [this]
  have h0 : (c :: r)[0]? = (s.drop p)[0]? := by rw [hl]
  rw [List.getElem?_drop] at h0
  simp only [List.getElem?_cons_zero, Nat.add_zero, List.getElem?_eq_getElem hp, Option.some.injEq] at h0
  rw [h0]

theorem Sc.covers {s l : List UInt8} {a : Int} {ts : List Tok} (h : Sc l a ts) : ∀ (p e : Nat), a = p → l = s.drop p → p ≤ s.length → e ≤ p → (∀ c ∈ (s.drop e).take (p - e), whtB c = true) → Cov s e ts := by
  induction h with
  | nil a =>
    rintro p e rfl hl hp he hw
    have hps : p = s.length := by
      have := congrArg List.length hl
      simp at this; omega
    exact ⟨p, rfl, he, by simpa using hp, by simp, hw, by simp, by simp, .inr ⟨by simp, rfl⟩, by simpa [Cov] using hps⟩
  | @white c r a ts h hs ih =>
    rintro p e rfl hl hp he hw
    have hlt : p < s.length := by
      have := congrArg List.length hl
      simp at this; omega
    refine ih (p + 1) e (by omega) ?_ (by omega) (by omega) ?_
    · rw [← List.drop_drop, ← hl]; rfl
    · rw [take_more he hl]
      intro x hx
      rcases List.mem_append.1 hx with hx | hx
      · exact hw x hx
      · obtain rfl : x = c := by simpa using hx
        exact h
  | @tok r a t ts hr hw0 h hs ih =>
    rintro p e rfl hl hp he hw
    obtain ⟨hpre, hne, ha, hk⟩ := nextL_ok hr h
    have hle := hpre.length_le
    have hlen : r.length = s.length - p := by rw [hl, List.length_drop]
    have hkn : t.k ≠ 0 := by rcases hk with ⟨h | h, _⟩ | ⟨h | h | h, _⟩ <;> omega
    refine ⟨p, ha, he, by omega, ?_, hw, ⟨fun h => absurd h hkn, fun h => absurd h hs.ne⟩, ⟨fun h => absurd h hne, fun h => absurd h hkn⟩, ?_, ?_⟩
    · rw [← hl]; exact (List.prefix_iff_eq_take.1 hpre).symm
    · rcases hk with h | ⟨h, h'⟩
      · exact .inl h
      · exact .inr ⟨by omega, h'⟩
    · refine ih (p + t.t.length) (p + t.t.length) (by omega) ?_ (by omega) (Nat.le_refl _) (by simp)
      rw [hl, List.drop_drop]

/-- White space, tokens: what the scan of a text begins with. -/
theorem Sc.head {l : List UInt8} {a : Int} {ts : List Tok} (h : Sc l a ts) : ts.length ≤ l.length + 1 := by
  induction h with
  | nil a => simp
  | white h hs ih => simp only [List.length_cons]; omega
  | @tok r a t ts hr hw h hs ih =>
    obtain ⟨hp, hne, _⟩ := nextL_ok hr h
    have h1 := hp.length_le
    have h2 := List.length_pos_iff.2 hne
    rw [List.length_drop] at ih
    simp only [List.length_cons]; omega
end Go.Proofs.YtgeapgbebbapmaaDoor
