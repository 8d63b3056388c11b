/-
  PARTS of a claim, merged by segs.py: Lex3, RtP, Lex4.
-/
import Derived.Test.YtjhnopnppimnhaaGreatDoorZ02
namespace Go.Proofs.YtjhnopnppimnhaaGreatDoor

/-! ### Lex3 -/
section

theorem scan1_nil (a : Int) : scan1 [] a = ([⟨0, [], V0, a⟩], 0, 0) := by rw [scan1]
theorem scan1_white {c : UInt8} (h : whtB c = true) (r : List UInt8) (a : Int) : scan1 (c :: r) a = scan1 r (a + 1) := by rw [scan1, if_pos h]
theorem scan1_bad {r : List UInt8} {a : Int} (hr : r ≠ []) (hw : whtB (r.getD 0 0) = false) (h : (nextL r a).2 ≠ 0) : scan1 r a = ([], a, (nextL r a).2) := by
  match r, hr with
  | c :: r', _ =>
    have hw' : whtB c = false := hw
    rw [scan1, if_neg (by rw [hw']; decide), if_pos h]
theorem scan1_tok {r : List UInt8} {a : Int} {t : Tok} (hr : r ≠ []) (hw : whtB (r.getD 0 0) = false) (h : nextL r a = (t, 0)) :
    scan1 r a = if (scan1 (r.drop t.t.length) (a + t.t.length)).2.2 = 0 then (t :: (scan1 (r.drop t.t.length) (a + t.t.length)).1, 0, 0) else scan1 (r.drop t.t.length) (a + t.t.length) := by
  have hne : t.t ≠ [] := (nextL_ok hr h).2.1
  have hlen : t.t.length ≠ 0 := fun e => hne (List.eq_nil_of_length_eq_zero e)
  match r, hr with
  | c :: r', _ =>
    have hw' : whtB c = false := hw
    rw [scan1, if_neg (by rw [hw']; decide), h, if_neg (by simp), if_neg hlen]

/-- A scan that succeeds. -/
inductive Sc : List UInt8 → Int → List Tok → Prop
  | nil (a : Int) : Sc [] a [⟨0, [], V0, a⟩]
  | white {c : UInt8} {r : List UInt8} {a : Int} {ts : List Tok} (h : whtB c = true) (hs : Sc r (a + 1) ts) : Sc (c :: r) a ts
  | tok {r : List UInt8} {a : Int} {t : Tok} {ts : List Tok} (hr : r ≠ []) (hw : whtB (r.getD 0 0) = false) (h : nextL r a = (t, 0)) (hs : Sc (r.drop t.t.length) (a + t.t.length) ts) : Sc r a (t :: ts)

theorem Sc.ne {l : List UInt8} {a : Int} {ts : List Tok} (h : Sc l a ts) : ts ≠ [] := by
  induction h with
  | nil a => simp
  | white h hs ih => exact ih
  | tok => simp

theorem sc_scan {l : List UInt8} {a : Int} {ts : List Tok} (h : Sc l a ts) : scan1 l a = (ts, 0, 0) := by
  induction h with
  | nil a => exact scan1_nil a
  | white h hs ih => rw [scan1_white h, ih]
  | tok hr hw h hs ih => rw [scan1_tok hr hw h, ih, if_pos rfl]

theorem scan_sc : ∀ (n : Nat) (l : List UInt8) (a : Int), l.length ≤ n → ((scan1 l a).2.2 = 0 → Sc l a (scan1 l a).1 ∧ (scan1 l a).2.1 = 0) ∧ ((scan1 l a).2.2 ≠ 0 → (scan1 l a).1 = [])
  | n, [], a, _ => by rw [scan1_nil]; exact ⟨fun _ => ⟨Sc.nil a, rfl⟩, fun h => absurd rfl h⟩
  | 0, c :: r, a, h => by simp at h
  | n + 1, c :: r, a, hl => by
    by_cases hw : whtB c = true
    · rw [scan1_white hw]
      obtain ⟨h1, h2⟩ := scan_sc n r (a + 1) (by simpa using hl)
      exact ⟨fun h => ⟨Sc.white hw (h1 h).1, (h1 h).2⟩, h2⟩
    · have hw' : whtB ((c :: r).getD 0 0) = false := by simpa using hw
      obtain ⟨⟨t, e⟩, hn⟩ : ∃ p, nextL (c :: r) a = p := ⟨_, rfl⟩
      by_cases he : e = 0
      · subst he
        rw [scan1_tok (by simp) hw' hn]
        have hp := (nextL_ok (by simp) hn).2.1
        obtain ⟨h1, h2⟩ := scan_sc n ((c :: r).drop t.t.length) (a + t.t.length) (by
          have := List.length_pos_iff.2 hp
          rw [List.length_drop]; omega)
        by_cases h0 : (scan1 ((c :: r).drop t.t.length) (a + t.t.length)).2.2 = 0
        · rw [if_pos h0]
          exact ⟨fun _ => ⟨Sc.tok (by simp) hw' hn (h1 h0).1, rfl⟩, fun h => absurd rfl h⟩
        · rw [if_neg h0]
          exact ⟨fun h => absurd h h0, h2⟩
      · rw [scan1_bad (by simp) hw' (by rw [hn]; exact he), hn]
        exact ⟨fun h => absurd h he, fun _ => rfl⟩

theorem scan_ok {l : List UInt8} {a : Int} {ts : List Tok} {q : Int} (h : scan1 l a = (ts, q, 0)) : Sc l a ts ∧ q = 0 := by
  have := (scan_sc l.length l a (Nat.le_refl _)).1 (by rw [h])
  rw [h] at this
  exact this
theorem scan_err {l : List UInt8} {a : Int} {ts : List Tok} {q e : Int} (h : scan1 l a = (ts, q, e)) (he : e ≠ 0) : ts = [] := by
  have := (scan_sc l.length l a (Nat.le_refl _)).2 (by rw [h]; exact he)
  rw [h] at this
  exact this

/-- A token d further on. -/
def Tok.sh (d : Int) (t : Tok) : Tok := ⟨t.k, t.t, t.v, t.a + d⟩
theorem nextL_at {r : List UInt8} {a : Int} {t : Tok} (_hr : r ≠ []) (h : nextL r a = (t, 0)) (b : Int) : nextL r b = (⟨t.k, t.t, t.v, b⟩, 0) := by
  have lit : ∀ k x, litTok k x a = (t, 0) → litTok k x b = (⟨t.k, t.t, t.v, b⟩, 0) := by
    intro k x hh
    obtain ⟨h1, h2⟩ := litTok_ok hh
    unfold litTok
    rw [h1, if_pos rfl]
    have e1 : t.k = k := by rw [h2]
    have e2 : t.t = x := by rw [h2]
    rw [e1, e2]
  unfold nextL at h ⊢
  split at h
  · rename_i g
    rw [if_pos g]
    unfold wordTok at h ⊢
    split at h
    · rename_i g2
      rw [if_pos g2]
      injection h with h1 _
      subst h1; rfl
    · rename_i g2
      rw [if_neg g2]
      split at h
      · injection h with _ h2; exact absurd h2 (by decide)
      · rename_i g3
        rw [if_neg g3]
        injection h with h1 _
        subst h1; rfl
  · rename_i g
    rw [if_neg g]
    split at h
    · rename_i g2
      rw [if_pos g2]
      exact lit _ _ h
    · rename_i g2
      rw [if_neg g2]
      split at h
      · rename_i g3
        rw [if_pos g3]
        split at h
        · injection h with _ h2; exact absurd h2 (by decide)
        · rename_i n hn
          exact lit _ _ h
      · rename_i g3
        rw [if_neg g3]
        obtain ⟨y, hy, rfl⟩ := symTok_ok h
        unfold symTok
        rw [hy]

theorem Sc.shift {l : List UInt8} {a : Int} {ts : List Tok} (h : Sc l a ts) (d : Int) : Sc l (a + d) (ts.map (Tok.sh d)) := by
  induction h with
  | nil a => exact Sc.nil (a + d)
  | white h hs ih => exact Sc.white h (by rw [show ∀ x : Int, x + d + 1 = x + 1 + d from fun x => by omega]; exact ih)
  | @tok r a t ts hr hw h hs ih =>
    have ha := (nextL_ok hr h).2.2.1
    have e : Tok.sh d t = ⟨t.k, t.t, t.v, a + d⟩ := by unfold Tok.sh; rw [ha]
    rw [List.map_cons, e]
    refine Sc.tok hr hw (nextL_at hr h (a + d)) ?_
    simp only
    rw [show a + d + (t.t.length : Int) = a + t.t.length + d by omega]
    exact ih

/-- Two texts with white space between them. -/
theorem Sc.join {s u : List UInt8} {a : Int} {ts us : List Tok} {c : UInt8} (hc : whtB c = true) (h : Sc s a ts) : Sc u (a + s.length + 1) us → Sc (s ++ c :: u) a (ts.dropLast ++ us) := by
  induction h with
  | nil a => intro hu; exact Sc.white hc (by simpa using hu)
  | @white c' r a ts h hs ih =>
    intro hu
    refine Sc.white h (ih ?_)
    simp only [List.length_cons] at hu
    rw [show a + 1 + (r.length : Int) + 1 = a + ((r.length + 1 : Nat) : Int) + 1 by omega]
    exact hu
  | @tok r a t ts hr hw h hs ih =>
    intro hu
    obtain ⟨hp, hne, _⟩ := nextL_ok hr h
    have hle := hp.length_le
    rw [List.dropLast_cons_of_ne_nil hs.ne, List.cons_append]
    refine Sc.tok (by simp) (by rw [getD0_app hr]; exact hw) (nextL_ext hc u hr h) ?_
    rw [List.drop_append_of_le_length hle]
    refine ih ?_
    rw [List.length_drop]
    rw [show a + (t.t.length : Int) + ((r.length - t.t.length : Nat) : Int) + 1 = a + r.length + 1 by omega]
    exact hu

/-- The texts of tokens, each with white space behind it. -/
def joinT : List Tok → List (List UInt8) → List UInt8
  | [], _ => []
  | t :: ts, [] => t.t ++ 32 :: joinT ts []
  | t :: ts, g :: gs => t.t ++ (g ++ joinT ts gs)
def gapOk (g : List UInt8) : Prop := g ≠ [] ∧ ∀ c ∈ g, whtB c = true

theorem sc_whites : ∀ (g : List UInt8) (r : List UInt8) (a : Int) (ts : List Tok), (∀ c ∈ g, whtB c = true) → Sc r (a + g.length) ts → Sc (g ++ r) a ts
  | [], r, a, ts, _, h => by simpa using h
  | c :: g, r, a, ts, hg, h => by
    refine Sc.white (hg c (by simp)) (sc_whites g r (a + 1) ts (fun x hx => hg x (by simp [hx])) ?_)
    rw [show a + 1 + (g.length : Int) = a + ((c :: g).length : Int) by simp; omega]
    exact h

/-- Alike but for the offset. -/
def Tok.bare (t : Tok) : Int × List UInt8 × V := (t.k, t.t, t.v)

theorem sc_head_ne {r : List UInt8} {a : Int} {t : Tok} (hr : r ≠ []) (hw : whtB (r.getD 0 0) = false) (h : nextL r a = (t, 0)) : t.t ≠ [] ∧ whtB (t.t.getD 0 0) = false := by
  obtain ⟨hp, hne, _⟩ := nextL_ok hr h
  refine ⟨hne, ?_⟩
  rw [List.prefix_iff_eq_take.1 hp, getD_take (List.length_pos_iff.2 hne)]
  exact hw

theorem Sc.back {l : List UInt8} {a : Int} {ts : List Tok} (h : Sc l a ts) : ∀ (gs : List (List UInt8)) (b : Int), (∀ g ∈ gs, gapOk g) → ∃ us, Sc (joinT ts gs) b us ∧ us.map Tok.bare = ts.map Tok.bare := by
  induction h with
  | nil a =>
    intro gs b hg
    refine ⟨[⟨0, [], V0, b + (joinT [⟨0, [], V0, a⟩] gs).length⟩], ?_, rfl⟩
    match gs with
    | [] => exact Sc.white (by decide) (by simpa [joinT] using Sc.nil (b + 1))
    | g :: gs =>
      have e : joinT [⟨0, [], V0, a⟩] (g :: gs) = g ++ [] := by simp [joinT]
      rw [e]
      refine sc_whites g [] b _ (hg g (by simp)).2 ?_
      rw [List.append_nil]
      exact Sc.nil _
  | white h hs ih => exact ih
  | @tok r a t ts hr hw h hs ih =>
    intro gs b hg
    obtain ⟨hne, hw0⟩ := sc_head_ne hr hw h
    have hcut := nextL_cut b hr h
    match gs with
    | [] =>
      obtain ⟨us, h1, h2⟩ := ih [] (b + t.t.length + 1) (by simp)
      refine ⟨⟨t.k, t.t, t.v, b⟩ :: us, ?_, by rw [List.map_cons, List.map_cons, h2]; rfl⟩
      refine Sc.tok (by simp [joinT, hne]) (by rw [joinT, getD0_app hne]; exact hw0) (nextL_ext (by decide) _ hne hcut) ?_
      simp only
      rw [joinT, List.drop_left]
      exact Sc.white (by decide) h1
    | g :: gs =>
      obtain ⟨hg0, hg1⟩ := hg g (by simp)
      obtain ⟨us, h1, h2⟩ := ih gs (b + t.t.length + g.length) (fun x hx => hg x (by simp [hx]))
      refine ⟨⟨t.k, t.t, t.v, b⟩ :: us, ?_, by rw [List.map_cons, List.map_cons, h2]; rfl⟩
      have he : nextL (joinT (t :: ts) (g :: gs)) b = (⟨t.k, t.t, t.v, b⟩, 0) := by
        match g, hg0, hg1 with
        | c :: g', _, hg1 => exact nextL_ext (hg1 c (by simp)) _ hne hcut
      refine Sc.tok (by simp [joinT, hne]) (by rw [joinT, getD0_app hne]; exact hw0) he ?_
      simp only
      rw [joinT, List.drop_left]
      exact sc_whites g _ _ _ hg1 h1

/-- The tokens cover the text s from the offset e on. -/
def Cov (s : List UInt8) : Nat → List Tok → Prop
  | e, [] => e = s.length
  | e, t :: ts => ∃ p : Nat, t.a = p ∧ e ≤ p ∧ p + t.t.length ≤ s.length ∧ (s.drop p).take t.t.length = t.t ∧ (∀ c ∈ (s.drop e).take (p - e), whtB c = true) ∧ (t.k = 0 ↔ ts = []) ∧ (t.t = [] ↔ t.k = 0)
      ∧ ((t.k = 2 ∨ t.k = 3) ∧ parseL t.t = (t.v, 0) ∨ ¬ (t.k = 2 ∨ t.k = 3) ∧ t.v = V0) ∧ Cov s (p + t.t.length) ts

theorem take_more {s : List UInt8} {e p : Nat} {c : UInt8} {r : List UInt8} (he : e ≤ p) (hl : c :: r = s.drop p) : (s.drop e).take (p + 1 - e) = (s.drop e).take (p - e) ++ [c] := by
  have hp : p < s.length := by
    have := congrArg List.length hl
    simp at this; omega
  rw [show p + 1 - e = (p - e) + 1 by omega, List.take_succ_eq_append_getElem (by rw [List.length_drop]; omega)]
  congr 1
  have : (s.drop e)[p - e]'(by rw [List.length_drop]; omega) = s[p] := by
    rw [List.getElem_drop]; congr 1; omega
  rw [this]
  have h0 : (c :: r)[0]? = (s.drop p)[0]? := by rw [hl]
  rw [List.getElem?_drop] at h0
  simp only [List.getElem?_cons_zero, Nat.add_zero, List.getElem?_eq_getElem hp, Option.some.injEq] at h0
  rw [h0]

theorem Sc.covers {s l : List UInt8} {a : Int} {ts : List Tok} (h : Sc l a ts) : ∀ (p e : Nat), a = p → l = s.drop p → p ≤ s.length → e ≤ p → (∀ c ∈ (s.drop e).take (p - e), whtB c = true) → Cov s e ts := by
  induction h with
  | nil a =>
    rintro p e rfl hl hp he hw
    have hps : p = s.length := by
      have := congrArg List.length hl
      simp at this; omega
    exact ⟨p, rfl, he, by simpa using hp, by simp, hw, by simp, by simp, .inr ⟨by simp, rfl⟩, by simpa [Cov] using hps⟩
  | @white c r a ts h hs ih =>
    rintro p e rfl hl hp he hw
    have hlt : p < s.length := by
      have := congrArg List.length hl
      simp at this; omega
    refine ih (p + 1) e (by omega) ?_ (by omega) (by omega) ?_
    · rw [← List.drop_drop, ← hl]; rfl
    · rw [take_more he hl]
      intro x hx
      rcases List.mem_append.1 hx with hx | hx
      · exact hw x hx
      · obtain rfl : x = c := by simpa using hx
        exact h
  | @tok r a t ts hr hw0 h hs ih =>
    rintro p e rfl hl hp he hw
    obtain ⟨hpre, hne, ha, hk⟩ := nextL_ok hr h
    have hle := hpre.length_le
    have hlen : r.length = s.length - p := by rw [hl, List.length_drop]
    have hkn : t.k ≠ 0 := by rcases hk with ⟨h | h, _⟩ | ⟨h | h | h, _⟩ <;> omega
    refine ⟨p, ha, he, by omega, ?_, hw, ⟨fun h => absurd h hkn, fun h => absurd h hs.ne⟩, ⟨fun h => absurd h hne, fun h => absurd h hkn⟩, ?_, ?_⟩
    · rw [← hl]; exact (List.prefix_iff_eq_take.1 hpre).symm
    · rcases hk with h | ⟨h, h'⟩
      · exact .inl h
      · exact .inr ⟨by omega, h'⟩
    · refine ih (p + t.t.length) (p + t.t.length) (by omega) ?_ (by omega) (Nat.le_refl _) (by simp)
      rw [hl, List.drop_drop]

/-- White space, tokens: what the scan of a text begins with. -/
theorem Sc.head {l : List UInt8} {a : Int} {ts : List Tok} (h : Sc l a ts) : ts.length ≤ l.length + 1 := by
  induction h with
  | nil a => simp
  | white h hs ih => simp only [List.length_cons]; omega
  | @tok r a t ts hr hw h hs ih =>
    obtain ⟨hp, hne, _⟩ := nextL_ok hr h
    have h1 := hp.length_le
    have h2 := List.length_pos_iff.2 hne
    rw [List.length_drop] at ih
    simp only [List.length_cons]; omega
end

/-! ### RtP -/
section

theorem unq_zero {l : List UInt8} (h : (unq l).2 = 0) : unq l = (0, 0) := by
  have key : ∀ p : UInt8 × Nat, (p = (0, 0) ∨ p.2 ≠ 0) → p.2 = 0 → p = (0, 0) := fun p hp h0 => hp.elim id fun h1 => absurd h0 h1
  refine key _ ?_ h
  unfold unq
  split
  · exact .inl rfl
  · unfold unquoteL
    split
    · split
      · exact .inl rfl
      · right; simp
    · split
      · exact .inl rfl
      · split
        · right; simp
        · split
          · right; simp
          · split
            · right; simp
            · split
              · unfold unhexL
                split
                · exact .inl rfl
                · split
                  · split
                    · exact .inl rfl
                    · right; simp
                  · exact .inl rfl
              · exact .inl rfl

theorem width_found {l : List UInt8} {c : UInt8} (h : spell c <+: l) : unq l = (c, (spell c).length) := by
  obtain ⟨t, rfl⟩ := h
  exact unq_spell c t
theorem width_none {l : List UInt8} (h : ∀ k < 256, ¬ spell (UInt8.ofNat k) <+: l) : unq l = (0, 0) := by
  by_cases h0 : (unq l).2 = 0
  · exact unq_zero h0
  · obtain ⟨⟨b, n⟩, hu⟩ : ∃ p, unq l = p := ⟨_, rfl⟩
    rw [hu] at h0
    obtain ⟨e, _⟩ := unq_sound hu h0
    refine absurd ?_ (h b.toNat b.toNat_lt)
    rw [show UInt8.ofNat b.toNat = b by simp]
    exact ⟨_, e.symm⟩

theorem dec_step {acc l : List UInt8} (h : l ≠ []) : dec acc l = if (unq l).2 = 0 then none else dec (acc ++ [(unq l).1]) (l.drop (unq l).2) := by
  rw [dec, if_neg h]

/-- The loop of the document's integer: what is known behind k digits. -/
def Run (lim : Nat) (d : List UInt8) (n : Nat) (big : Bool) : Prop := (big = false → n = numVal d ∧ numVal d ≤ lim) ∧ (big = true → lim < numVal d)
theorem run_nil (lim : Nat) : Run lim [] 0 false := ⟨fun _ => ⟨rfl, Nat.zero_le _⟩, nofun⟩
theorem run_over {lim n : Nat} {d : List UInt8} {c : UInt8} (h : Run lim d n false) (hg : (lim - (c.toNat - 48)) / 10 < n) (m : Nat) (hl : c.toNat - 48 ≤ lim) : Run lim (d ++ [c]) m true := by
  obtain ⟨h1, _⟩ := h
  obtain ⟨rfl, h2⟩ := h1 rfl
  refine ⟨nofun, fun _ => ?_⟩
  rw [numVal_snoc]; omega
theorem run_digit {lim n : Nat} {d : List UInt8} {c : UInt8} (h : Run lim d n false) (hg : ¬ (lim - (c.toNat - 48)) / 10 < n) (hl : c.toNat - 48 ≤ lim) : Run lim (d ++ [c]) (n * 10 + (c.toNat - 48)) false := by
  obtain ⟨h1, _⟩ := h
  obtain ⟨rfl, h2⟩ := h1 rfl
  refine ⟨fun _ => ⟨by rw [numVal_snoc], ?_⟩, nofun⟩
  rw [numVal_snoc]; omega
theorem run_big {lim n : Nat} {d : List UInt8} {c : UInt8} (h : Run lim d n true) (m : Nat) : Run lim (d ++ [c]) m true := by
  refine ⟨nofun, fun _ => ?_⟩
  have := h.2 rfl
  rw [numVal_snoc]; omega

/-- A literal consists of printable bytes. -/
theorem spell_print (c : UInt8) : ∀ x ∈ spell c, 32 ≤ x.toNat ∧ x.toNat ≤ 126 := by
  have h : ∀ i : Fin 256, (spell (UInt8.ofNat i.val)).all (fun x => decide (32 ≤ x.toNat ∧ x.toNat ≤ 126)) = true := by decide +kernel
  have := h ⟨c.toNat, c.toNat_lt⟩
  simp only [UInt8.ofNat_toNat] at this
  intro x hx
  exact of_decide_eq_true (List.all_eq_true.1 this x hx)
theorem textL_print (v : V) : ∀ x ∈ textL v, 32 ≤ x.toNat ∧ x.toNat ≤ 126 := by
  intro x hx
  unfold textL at hx
  split at hx
  · split at hx
    · rcases itoa_bytes _ x hx with h | h <;> omega
    · unfold quoteL at hx
      rcases List.mem_cons.1 hx with rfl | hx
      · decide
      · rcases List.mem_append.1 hx with hx | hx
        · obtain ⟨c, _, hc⟩ := List.mem_flatMap.1 hx
          exact spell_print c x hc
        · obtain rfl : x = 34 := by simpa using hx
          decide
  · cases hx

theorem textL_inj {a b : V} (ha : a.valid = true) (hb : b.valid = true) (na : I64 a.n) (nb : I64 b.n) (h : textL a = textL b) : a = b := by
  have h1 := parse_text ha na
  have h2 := parse_text hb nb
  rw [h] at h1
  exact congrArg Prod.fst (h1.symm.trans h2)
end

/-! ### Lex4 -/
section

/-! ### Strings -/
theorem strGo_plain {c : UInt8} (h1 : c ≠ 92) (h2 : c ≠ 34) (t : List UInt8) : strGo false (c :: t) = (strGo false t).map (· + 1) := by
  rw [strGo, if_neg h1, if_neg h2]
theorem strGo_esc (c : UInt8) (t : List UInt8) : strGo false (92 :: c :: t) = ((strGo false t).map (· + 1)).map (· + 1) := by
  rw [strGo, if_pos rfl, strGo]
theorem strGo_spell (c : UInt8) (t : List UInt8) {n : Nat} (h : strGo false t = some n) : strGo false (spell c ++ t) = some (n + (spell c).length) := by
  have hx : ∀ q : Nat, q < 16 → hexd q ≠ 92 ∧ hexd q ≠ 34 := by decide
  have hc : c.toNat < 256 := c.toNat_lt
  unfold spell
  split
  · simp only [List.cons_append, List.nil_append, strGo_esc, h, Option.map_some, List.length_cons, List.length_nil]
  · split
    · simp only [List.cons_append, List.nil_append, strGo_esc, h, Option.map_some, List.length_cons, List.length_nil]
    · split
      · simp only [List.cons_append, List.nil_append, strGo_esc, h, Option.map_some, List.length_cons, List.length_nil]
      · split
        · rename_i g1 _ _ _
          have h1 : c ≠ 92 := fun e => g1 (.inr (by rw [e]; rfl))
          have h2 : c ≠ 34 := fun e => g1 (.inl (by rw [e]; rfl))
          simp only [List.cons_append, List.nil_append, strGo_plain h1 h2, h, Option.map_some, List.length_cons, List.length_nil]
        · obtain ⟨a1, a2⟩ := hx (c.toNat / 16) (by omega)
          obtain ⟨b1, b2⟩ := hx (c.toNat % 16) (by omega)
          simp only [List.cons_append, List.nil_append, strGo_esc, strGo_plain a1 a2, strGo_plain b1 b2, h, Option.map_some, List.length_cons, List.length_nil]
theorem strGo_spells : ∀ (l : List UInt8) (t : List UInt8), strGo false (l.flatMap spell ++ 34 :: t) = some ((l.flatMap spell).length + 1)
  | [], t => by simp [strGo]
  | c :: l, t => by
    rw [List.flatMap_cons, List.append_assoc, strGo_spell c _ (strGo_spells l t), List.length_append]
    congr 1; omega
theorem strLen_quote (l t : List UInt8) : strLen (quoteL l ++ t) = some (quoteL l).length := by
  unfold strLen quoteL
  have e : ((34 : UInt8) :: (l.flatMap spell ++ [34]) ++ t).drop 1 = l.flatMap spell ++ 34 :: t := by simp
  rw [e, strGo_spells]
  simp

/-! ### Numbers -/
theorem dig_wrd {c : UInt8} (h : 48 ≤ c.toNat ∧ c.toNat ≤ 57) : wrdB c = true ∧ digB c = true ∧ letB c = false := by
  have h1 : digB c = true := by unfold digB; simp [h]
  refine ⟨by unfold wrdB; rw [h1]; simp, h1, ?_⟩
  unfold letB
  simp; omega
theorem num_not_let {c : UInt8} (h : c.toNat = 45 ∨ (48 ≤ c.toNat ∧ c.toNat ≤ 57)) : letB c = false := by
  unfold letB
  simp; omega
theorem takeWhile_app {p : UInt8 → Bool} : ∀ (r u : List UInt8), (∀ c ∈ r, p c = true) → (r ++ u).takeWhile p = r ++ u.takeWhile p
  | [], u, _ => rfl
  | x :: r, u, h => by
    rw [List.cons_append, List.takeWhile_cons, if_pos (h x (by simp)), takeWhile_app r u fun c hc => h c (by simp [hc])]; rfl
theorem wordLen_app {r u : List UInt8} {c : UInt8} (hr : ∀ c ∈ r, wrdB c = true) (hc : wrdB c = false) : wordLen (r ++ c :: u) = r.length := by
  unfold wordLen
  rw [takeWhile_app r _ hr, List.takeWhile_cons, if_neg (by rw [hc]; decide), List.append_nil]
theorem wordLen_whole {r : List UInt8} (hr : ∀ c ∈ r, wrdB c = true) : wordLen r = r.length := by
  have := takeWhile_app r [] hr
  unfold wordLen
  rw [List.append_nil] at this
  rw [this]; simp

/-- The literal of a number, of a string, before a byte that belongs to no word. -/
theorem nextL_text {v : V} (hv : v.valid = true) (hn : I64 v.n) (c : UInt8) (hc : wrdB c = false) (u : List UInt8) (a : Int) :
    nextL (textL v ++ c :: u) a = (⟨if v.k = 1 then 2 else 3, textL v, v, a⟩, 0) := by
  have hp := parse_text hv hn
  have lit : ∀ k, litTok k (textL v) a = (⟨k, textL v, v, a⟩, 0) := fun k => by unfold litTok; rw [hp, if_pos rfl]
  by_cases h1 : v.k = 1
  · rw [if_pos h1]
    have ht := textL_int hv h1
    have hne : textL v ≠ [] := by rw [ht]; exact itoa_ne_nil _
    have hb := itoa_bytes v.n
    rw [← ht] at hb
    have hd1 : ∀ x ∈ (textL v).drop 1, 48 ≤ x.toNat ∧ x.toNat ≤ 57 := by
      rw [ht]; unfold Lib.itoa
      split
      · exact fun x hx => dec_digits _ x (by simpa using hx)
      · exact fun x hx => dec_digits _ x (List.mem_of_mem_drop hx)
    have hlen : (textL v).getD 0 0 = 45 → 1 < (textL v).length ∧ digB ((textL v).getD 1 0) = true := by
      rw [ht]; unfold Lib.itoa
      split
      · intro _
        have h0 := dec_ne_nil v.n.natAbs
        have hd := dec_digits v.n.natAbs
        match Lib.decDigits v.n.natAbs, h0, hd with
        | x :: r, _, hd => exact ⟨by simp, (dig_wrd (hd x (by simp))).2.1⟩
      · intro h
        have h0 := dec_ne_nil v.n.toNat
        have hd := dec_digits v.n.toNat
        match Lib.decDigits v.n.toNat, h0, hd, h with
        | x :: r, _, hd, h =>
          have := hd x (by simp)
          have h' : x = 45 := h
          subst h'
          exact absurd this (by decide)
    generalize textL v = l at *
    unfold nextL
    rw [getD0_app hne]
    have hx0 := hb (l.getD 0 0) (by match l, hne with | x :: r, _ => exact List.mem_cons_self)
    have hlet : letB (l.getD 0 0) = false := num_not_let hx0
    rw [hlet, if_neg (by decide)]
    have hnum : numB (l ++ c :: u) = true := by
      unfold numB
      rw [getD0_app hne]
      rcases hx0 with h | h
      · have h45 : l.getD 0 0 = 45 := UInt8.toNat.inj h
        obtain ⟨q1, q2⟩ := hlen h45
        match l, q1, q2, h45 with
        | x :: y :: r, _, q2, h45 =>
          have q2' : digB y = true := q2
          have h45' : x = 45 := h45
          subst h45'
          simp [q2']
      · rw [(dig_wrd h).2.1]; rfl
    rw [if_pos hnum, drop1_app hne, wordLen_app (fun x hx => (dig_wrd (hd1 x hx)).1) hc]
    have e : 1 + (l.drop 1).length = l.length := by
      rw [List.length_drop]
      have := List.length_pos_iff.2 hne
      omega
    rw [e, List.take_left]
    exact lit 2
  · rw [if_neg h1]
    have ht := textL_str hv h1
    have hne : textL v ≠ [] := by rw [ht]; simp [quoteL]
    have h34 : (textL v).getD 0 0 = 34 := by rw [ht]; rfl
    have hs : strLen (textL v ++ c :: u) = some (textL v).length := by rw [ht]; exact strLen_quote _ _
    unfold nextL
    rw [getD0_app hne, h34, if_neg (by decide), hs]
    have hnum : numB (textL v ++ c :: u) = false := by
      unfold numB; rw [getD0_app hne, h34]; rfl
    rw [hnum, if_neg (by decide), if_pos rfl]
    simp only
    rw [List.take_left]
    exact lit 3

theorem symTok_one {r : List UInt8} {y : List UInt8} (a : Int) (hr : symL.find? (fun z => z.isPrefixOf r) = some y) : symTok r a = (⟨4, y, V0, a⟩, 0) := by
  unfold symTok; rw [hr]
theorem next_open (u : List UInt8) (a : Int) : nextL (40 :: u) a = (⟨4, [40], V0, a⟩, 0) := by
  unfold nextL
  rw [if_neg (by simp [letB]), if_neg (by simp [numB, digB]), if_neg (by simp)]
  exact symTok_one a (by simp [symL])
theorem next_close (u : List UInt8) (a : Int) : nextL (41 :: u) a = (⟨4, [41], V0, a⟩, 0) := by
  unfold nextL
  rw [if_neg (by simp [letB]), if_neg (by simp [numB, digB]), if_neg (by simp)]
  exact symTok_one a (by simp [symL])

theorem textL_ne {v : V} (hv : v.valid = true) : textL v ≠ [] := by
  by_cases h1 : v.k = 1
  · rw [textL_int hv h1]; exact itoa_ne_nil _
  · rw [textL_str hv h1]; simp [quoteL]
theorem textL_head {v : V} (hv : v.valid = true) : whtB ((textL v).getD 0 0) = false := by
  by_cases h1 : v.k = 1
  · rw [textL_int hv h1]
    have hb := itoa_bytes v.n
    have hne := itoa_ne_nil v.n
    have := hb ((Lib.itoa v.n).getD 0 0) (by
      match Lib.itoa v.n, hne with
      | x :: r, _ => exact List.mem_cons_self)
    generalize (Lib.itoa v.n).getD 0 0 = x at *
    have key : ∀ i : Fin 256, (i.val = 45 ∨ (48 ≤ i.val ∧ i.val ≤ 57)) → whtB (UInt8.ofNat i.val) = false := by decide +kernel
    have k2 := key ⟨x.toNat, x.toNat_lt⟩ this
    simpa using k2
  · rw [textL_str hv h1]; show whtB 34 = false; decide

/-- Between parentheses. -/
theorem sc_value {v : V} (hv : v.valid = true) (hn : I64 v.n) :
    Sc (40 :: (textL v ++ [41])) 0 [⟨4, [40], V0, 0⟩, ⟨if v.k = 1 then 2 else 3, textL v, v, 1⟩, ⟨4, [41], V0, 1 + (textL v).length⟩, ⟨0, [], V0, 1 + (textL v).length + 1⟩] := by
  have hne := textL_ne hv
  refine Sc.tok (by simp) (by simp [whtB]) (next_open _ 0) ?_
  simp only [List.length_cons, List.length_nil, List.drop_succ_cons, List.drop_zero]
  refine Sc.tok (by simp) (by rw [getD0_app hne]; exact textL_head hv) (nextL_text hv hn 41 (by decide) [] _) ?_
  simp only [List.drop_left]
  refine Sc.tok (by simp) (by simp [whtB]) (next_close [] _) ?_
  simp only [List.length_cons, List.length_nil, List.drop_succ_cons, List.drop_zero]
  exact Sc.nil _

/-! ### Long texts -/
theorem sc_blanks {c : UInt8} (hc : whtB c = true) : ∀ (n : Nat) (a : Int), Sc (List.replicate n c) a [⟨0, [], V0, a + n⟩]
  | 0, a => by simpa using Sc.nil a
  | n + 1, a => by
    rw [List.replicate_succ]
    refine Sc.white hc ?_
    have := sc_blanks hc n (a + 1)
    rw [show a + ((n + 1 : Nat) : Int) = a + 1 + n by omega]
    exact this
theorem sc_opens : ∀ (n : Nat) (a : Int), ∃ ts, Sc (List.replicate n 40) a ts ∧ ts.length = n + 1
  | 0, a => ⟨_, Sc.nil a, rfl⟩
  | n + 1, a => by
    obtain ⟨ts, h1, h2⟩ := sc_opens n (a + 1)
    refine ⟨_, Sc.tok (by simp) (by simp [List.replicate_succ, whtB]) (by rw [List.replicate_succ]; exact next_open _ a) ?_, by rw [List.length_cons, h2]⟩
    simpa [List.replicate_succ] using h1
end
end Go.Proofs.YtjhnopnppimnhaaGreatDoor
