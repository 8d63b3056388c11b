/-
  PARTS of a claim, merged by segs.py: RtP, Lex4, Lex5, PgA, PsL.
-/
import Derived.Test.YtnbacdmlaedppaaGreatDoorQ02
import Derived.Test.YtnbacdmlaedppaaGreatDoorQ03
namespace Go.Proofs.YtnbacdmlaedppaaGreatDoor

/-! ### RtP -/
section

theorem unq_zero {l : List UInt8} (h : (unq l).2 = 0) : unq l = (0, 0) := by
  have key : ∀ p : UInt8 × Nat, (p = (0, 0) ∨ p.2 ≠ 0) → p.2 = 0 → p = (0, 0) := fun p hp h0 => hp.elim id fun h1 => absurd h0 h1
  refine key _ ?_ h
  unfold unq
  split
  · exact .inl rfl
  · unfold unquoteL
    split
    · split
      · exact .inl rfl
      · right; simp
    · split
      · exact .inl rfl
      · split
        · right; simp
        · split
          · right; simp
          · split
            · right; simp
            · split
              · unfold unhexL
                split
                · exact .inl rfl
                · split
                  · split
                    · exact .inl rfl
                    · right; simp
                  · exact .inl rfl
              · exact .inl rfl

theorem width_found {l : List UInt8} {c : UInt8} (h : spell c <+: l) : unq l = (c, (spell c).length) := by
  obtain ⟨t, rfl⟩ := h
  exact unq_spell c t
theorem width_none {l : List UInt8} (h : ∀ k < 256, ¬ spell (UInt8.ofNat k) <+: l) : unq l = (0, 0) := by
  by_cases h0 : (unq l).2 = 0
  · exact unq_zero h0
  · obtain ⟨⟨b, n⟩, hu⟩ : ∃ p, unq l = p := ⟨_, rfl⟩
    rw [hu] at h0
    obtain ⟨e, _⟩ := unq_sound hu h0
    refine absurd ?_ (h b.toNat b.toNat_lt)
    rw [show UInt8.ofNat b.toNat = b by simp]
    exact ⟨_, e.symm⟩

theorem dec_step {acc l : List UInt8} (h : l ≠ []) : dec acc l = if (unq l).2 = 0 then none else dec (acc ++ [(unq l).1]) (l.drop (unq l).2) := by
  rw [dec, if_neg h]

/-- The loop of the document's integer: what is known behind k digits. -/
def Run (lim : Nat) (d : List UInt8) (n : Nat) (big : Bool) : Prop := (big = false → n = numVal d ∧ numVal d ≤ lim) ∧ (big = true → lim < numVal d)
theorem run_nil (lim : Nat) : Run lim [] 0 false := ⟨fun _ => ⟨rfl, Nat.zero_le _⟩, nofun⟩
theorem run_over {lim n : Nat} {d : List UInt8} {c : UInt8} (h : Run lim d n false) (hg : (lim - (c.toNat - 48)) / 10 < n) (m : Nat) (hl : c.toNat - 48 ≤ lim) : Run lim (d ++ [c]) m true := by
  obtain ⟨h1, _⟩ := h
  obtain ⟨rfl, h2⟩ := h1 rfl
  refine ⟨nofun, fun _ => ?_⟩
  rw [numVal_snoc]; omega
theorem run_digit {lim n : Nat} {d : List UInt8} {c : UInt8} (h : Run lim d n false) (hg : ¬ (lim - (c.toNat - 48)) / 10 < n) (hl : c.toNat - 48 ≤ lim) : Run lim (d ++ [c]) (n * 10 + (c.toNat - 48)) false := by
  obtain ⟨h1, _⟩ := h
  obtain ⟨rfl, h2⟩ := h1 rfl
  refine ⟨fun _ => ⟨by rw [numVal_snoc], ?_⟩, nofun⟩
  rw [numVal_snoc]; omega
theorem run_big {lim n : Nat} {d : List UInt8} {c : UInt8} (h : Run lim d n true) (m : Nat) : Run lim (d ++ [c]) m true := by
  refine ⟨nofun, fun _ => ?_⟩
  have := h.2 rfl
  rw [numVal_snoc]; omega

/-- A literal consists of printable bytes. -/
theorem spell_print (c : UInt8) : ∀ x ∈ spell c, 32 ≤ x.toNat ∧ x.toNat ≤ 126 := by
  have h : ∀ i : Fin 256, (spell (UInt8.ofNat i.val)).all (fun x => decide (32 ≤ x.toNat ∧ x.toNat ≤ 126)) = true := by decide +kernel
  have := h ⟨c.toNat, c.toNat_lt⟩
  simp only [UInt8.ofNat_toNat] at this
  intro x hx
  exact of_decide_eq_true (List.all_eq_true.1 this x hx)
theorem textL_print (v : V) : ∀ x ∈ textL v, 32 ≤ x.toNat ∧ x.toNat ≤ 126 := by
  intro x hx
  unfold textL at hx
  split at hx
  · split at hx
    · rcases itoa_bytes _ x hx with h | h <;> omega
    · unfold quoteL at hx
      rcases List.mem_cons.1 hx with rfl | hx
      · decide
      · rcases List.mem_append.1 hx with hx | hx
        · obtain ⟨c, _, hc⟩ := List.mem_flatMap.1 hx
          exact spell_print c x hc
        · obtain rfl : x = 34 := by simpa using hx
          decide
  · cases hx

theorem textL_inj {a b : V} (ha : a.valid = true) (hb : b.valid = true) (na : I64 a.n) (nb : I64 b.n) (h : textL a = textL b) : a = b := by
  have h1 := parse_text ha na
  have h2 := parse_text hb nb
  rw [h] at h1
  exact congrArg Prod.fst (h1.symm.trans h2)
end

/-! ### Lex4 -/
section

/-! ### Strings -/
theorem strGo_plain {c : UInt8} (h1 : c ≠ 92) (h2 : c ≠ 34) (t : List UInt8) : strGo false (c :: t) = (strGo false t).map (· + 1) := by
  rw [strGo, if_neg h1, if_neg h2]
theorem strGo_esc (c : UInt8) (t : List UInt8) : strGo false (92 :: c :: t) = ((strGo false t).map (· + 1)).map (· + 1) := by
  rw [strGo, if_pos rfl, strGo]
theorem strGo_spell (c : UInt8) (t : List UInt8) {n : Nat} (h : strGo false t = some n) : strGo false (spell c ++ t) = some (n + (spell c).length) := by
  have hx : ∀ q : Nat, q < 16 → hexd q ≠ 92 ∧ hexd q ≠ 34 := by decide
  have hc : c.toNat < 256 := c.toNat_lt
  unfold spell
  split
  · simp only [List.cons_append, List.nil_append, strGo_esc, h, Option.map_some, List.length_cons, List.length_nil]
  · split
    · simp only [List.cons_append, List.nil_append, strGo_esc, h, Option.map_some, List.length_cons, List.length_nil]
    · split
      · simp only [List.cons_append, List.nil_append, strGo_esc, h, Option.map_some, List.length_cons, List.length_nil]
      · split
        · rename_i g1 _ _ _
          have h1 : c ≠ 92 := fun e => g1 (.inr (by rw [e]; rfl))
          have h2 : c ≠ 34 := fun e => g1 (.inl (by rw [e]; rfl))
          simp only [List.cons_append, List.nil_append, strGo_plain h1 h2, h, Option.map_some, List.length_cons, List.length_nil]
        · obtain ⟨a1, a2⟩ := hx (c.toNat / 16) (by omega)
          obtain ⟨b1, b2⟩ := hx (c.toNat % 16) (by omega)
          simp only [List.cons_append, List.nil_append, strGo_esc, strGo_plain a1 a2, strGo_plain b1 b2, h, Option.map_some, List.length_cons, List.length_nil]
theorem strGo_spells : ∀ (l : List UInt8) (t : List UInt8), strGo false (l.flatMap spell ++ 34 :: t) = some ((l.flatMap spell).length + 1)
  | [], t => by simp [strGo]
  | c :: l, t => by
    rw [List.flatMap_cons, List.append_assoc, strGo_spell c _ (strGo_spells l t), List.length_append]
    congr 1; omega
theorem strLen_quote (l t : List UInt8) : strLen (quoteL l ++ t) = some (quoteL l).length := by
  unfold strLen quoteL
  have e : ((34 : UInt8) :: (l.flatMap spell ++ [34]) ++ t).drop 1 = l.flatMap spell ++ 34 :: t := by simp
  rw [e, strGo_spells]
  simp

/-! ### Numbers -/
theorem dig_wrd {c : UInt8} (h : 48 ≤ c.toNat ∧ c.toNat ≤ 57) : wrdB c = true ∧ digB c = true ∧ letB c = false := by
  have h1 : digB c = true := by unfold digB; simp [h]
  refine ⟨by unfold wrdB; rw [h1]; simp, h1, ?_⟩
  unfold letB
  simp; omega
theorem num_not_let {c : UInt8} (h : c.toNat = 45 ∨ (48 ≤ c.toNat ∧ c.toNat ≤ 57)) : letB c = false := by
  unfold letB
  simp; omega
theorem takeWhile_app {p : UInt8 → Bool} : ∀ (r u : List UInt8), (∀ c ∈ r, p c = true) → (r ++ u).takeWhile p = r ++ u.takeWhile p
  | [], u, _ => rfl
  | x :: r, u, h => by
    rw [List.cons_append, List.takeWhile_cons, if_pos (h x (by simp)), takeWhile_app r u fun c hc => h c (by simp [hc])]; rfl
theorem wordLen_app {r u : List UInt8} {c : UInt8} (hr : ∀ c ∈ r, wrdB c = true) (hc : wrdB c = false) : wordLen (r ++ c :: u) = r.length := by
  unfold wordLen
  rw [takeWhile_app r _ hr, List.takeWhile_cons, if_neg (by rw [hc]; decide), List.append_nil]
theorem wordLen_whole {r : List UInt8} (hr : ∀ c ∈ r, wrdB c = true) : wordLen r = r.length := by
  have := takeWhile_app r [] hr
  unfold wordLen
  rw [List.append_nil] at this
  rw [this]; simp

/-- The literal of a number, of a string, before a byte that belongs to no word. -/
theorem nextL_text {v : V} (hv : v.valid = true) (hn : I64 v.n) (c : UInt8) (hc : wrdB c = false) (u : List UInt8) (a : Int) :
    nextL (textL v ++ c :: u) a = (⟨if v.k = 1 then 2 else 3, textL v, v, a⟩, 0) := by
  have hp := parse_text hv hn
  have lit : ∀ k, litTok k (textL v) a = (⟨k, textL v, v, a⟩, 0) := fun k => by unfold litTok; rw [hp, if_pos rfl]
  by_cases h1 : v.k = 1
  · rw [if_pos h1]
    have ht := textL_int hv h1
    have hne : textL v ≠ [] := by rw [ht]; exact itoa_ne_nil _
    have hb := itoa_bytes v.n
    rw [← ht] at hb
    have hd1 : ∀ x ∈ (textL v).drop 1, 48 ≤ x.toNat ∧ x.toNat ≤ 57 := by
      rw [ht]; unfold Lib.itoa
      split
      · exact fun x hx => dec_digits _ x (by simpa using hx)
      · exact fun x hx => dec_digits _ x (List.mem_of_mem_drop hx)
    have hlen : (textL v).getD 0 0 = 45 → 1 < (textL v).length ∧ digB ((textL v).getD 1 0) = true := by
      rw [ht]; unfold Lib.itoa
      split
      · intro _
        have h0 := dec_ne_nil v.n.natAbs
        have hd := dec_digits v.n.natAbs
        match Lib.decDigits v.n.natAbs, h0, hd with
        | x :: r, _, hd => exact ⟨by simp, (dig_wrd (hd x (by simp))).2.1⟩
      · intro h
        have h0 := dec_ne_nil v.n.toNat
        have hd := dec_digits v.n.toNat
        match Lib.decDigits v.n.toNat, h0, hd, h with
        | x :: r, _, hd, h =>
          have := hd x (by simp)
          have h' : x = 45 := h
          subst h'
          exact absurd this (by decide)
    generalize textL v = l at *
    unfold nextL
    rw [getD0_app hne]
    have hx0 := hb (l.getD 0 0) (by match l, hne with | x :: r, _ => exact List.mem_cons_self)
    have hlet : letB (l.getD 0 0) = false := num_not_let hx0
    rw [hlet, if_neg (by decide)]
    have hnum : numB (l ++ c :: u) = true := by
      unfold numB
      rw [getD0_app hne]
      rcases hx0 with h | h
      · have h45 : l.getD 0 0 = 45 := UInt8.toNat.inj h
        obtain ⟨q1, q2⟩ := hlen h45
        match l, q1, q2, h45 with
        | x :: y :: r, _, q2, h45 =>
          have q2' : digB y = true := q2
          have h45' : x = 45 := h45
          subst h45'
          simp [q2']
      · rw [(dig_wrd h).2.1]; rfl
    rw [if_pos hnum, drop1_app hne, wordLen_app (fun x hx => (dig_wrd (hd1 x hx)).1) hc]
    have e : 1 + (l.drop 1).length = l.length := by
      rw [List.length_drop]
      have := List.length_pos_iff.2 hne
      omega
    rw [e, List.take_left]
    exact lit 2
  · rw [if_neg h1]
    have ht := textL_str hv h1
    have hne : textL v ≠ [] := by rw [ht]; simp [quoteL]
    have h34 : (textL v).getD 0 0 = 34 := by rw [ht]; rfl
    have hs : strLen (textL v ++ c :: u) = some (textL v).length := by rw [ht]; exact strLen_quote _ _
    unfold nextL
    rw [getD0_app hne, h34, if_neg (by decide), hs]
    have hnum : numB (textL v ++ c :: u) = false := by
      unfold numB; rw [getD0_app hne, h34]; rfl
    rw [hnum, if_neg (by decide), if_pos rfl]
    simp only
    rw [List.take_left]
    exact lit 3

theorem symTok_one {r : List UInt8} {y : List UInt8} (a : Int) (hr : symL.find? (fun z => z.isPrefixOf r) = some y) : symTok r a = (⟨4, y, V0, a⟩, 0) := by
  unfold symTok; rw [hr]
theorem next_open (u : List UInt8) (a : Int) : nextL (40 :: u) a = (⟨4, [40], V0, a⟩, 0) := by
  unfold nextL
  rw [if_neg (by simp [letB]), if_neg (by simp [numB, digB]), if_neg (by simp)]
  exact symTok_one a (by simp [symL])
theorem next_close (u : List UInt8) (a : Int) : nextL (41 :: u) a = (⟨4, [41], V0, a⟩, 0) := by
  unfold nextL
  rw [if_neg (by simp [letB]), if_neg (by simp [numB, digB]), if_neg (by simp)]
  exact symTok_one a (by simp [symL])

theorem textL_ne {v : V} (hv : v.valid = true) : textL v ≠ [] := by
  by_cases h1 : v.k = 1
  · rw [textL_int hv h1]; exact itoa_ne_nil _
  · rw [textL_str hv h1]; simp [quoteL]
theorem textL_head {v : V} (hv : v.valid = true) : whtB ((textL v).getD 0 0) = false := by
  by_cases h1 : v.k = 1
  · rw [textL_int hv h1]
    have hb := itoa_bytes v.n
    have hne := itoa_ne_nil v.n
    have := hb ((Lib.itoa v.n).getD 0 0) (by
      match Lib.itoa v.n, hne with
      | x :: r, _ => exact List.mem_cons_self)
    generalize (Lib.itoa v.n).getD 0 0 = x at *
    have key : ∀ i : Fin 256, (i.val = 45 ∨ (48 ≤ i.val ∧ i.val ≤ 57)) → whtB (UInt8.ofNat i.val) = false := by decide +kernel
    have k2 := key ⟨x.toNat, x.toNat_lt⟩ this
    simpa using k2
  · rw [textL_str hv h1]; show whtB 34 = false; decide

/-- Between parentheses. -/
theorem sc_value {v : V} (hv : v.valid = true) (hn : I64 v.n) :
    Sc (40 :: (textL v ++ [41])) 0 [⟨4, [40], V0, 0⟩, ⟨if v.k = 1 then 2 else 3, textL v, v, 1⟩, ⟨4, [41], V0, 1 + (textL v).length⟩, ⟨0, [], V0, 1 + (textL v).length + 1⟩] := by
  have hne := textL_ne hv
  refine Sc.tok (by simp) (by simp [whtB]) (next_open _ 0) ?_
  simp only [List.length_cons, List.length_nil, List.drop_succ_cons, List.drop_zero]
  refine Sc.tok (by simp) (by rw [getD0_app hne]; exact textL_head hv) (nextL_text hv hn 41 (by decide) [] _) ?_
  simp only [List.drop_left]
  refine Sc.tok (by simp) (by simp [whtB]) (next_close [] _) ?_
  simp only [List.length_cons, List.length_nil, List.drop_succ_cons, List.drop_zero]
  exact Sc.nil _

/-! ### Long texts -/
theorem sc_blanks {c : UInt8} (hc : whtB c = true) : ∀ (n : Nat) (a : Int), Sc (List.replicate n c) a [⟨0, [], V0, a + n⟩]
  | 0, a => by simpa using Sc.nil a
  | n + 1, a => by
    rw [List.replicate_succ]
    refine Sc.white hc ?_
    have := sc_blanks hc n (a + 1)
    rw [show a + ((n + 1 : Nat) : Int) = a + 1 + n by omega]
    exact this
theorem sc_opens : ∀ (n : Nat) (a : Int), ∃ ts, Sc (List.replicate n 40) a ts ∧ ts.length = n + 1
  | 0, a => ⟨_, Sc.nil a, rfl⟩
  | n + 1, a => by
    obtain ⟨ts, h1, h2⟩ := sc_opens n (a + 1)
    refine ⟨_, Sc.tok (by simp) (by simp [List.replicate_succ, whtB]) (by rw [List.replicate_succ]; exact next_open _ a) ?_, by rw [List.length_cons, h2]⟩
    simpa [List.replicate_succ] using h1
end

/-! ### Lex5 -/
section

def scanL (l : List UInt8) : List Tok × Int × Int := if 65536 < l.length then ([], 0, 13) else scan1 l 0
theorem scanL_sc {l : List UInt8} {ts : List Tok} (hl : l.length ≤ 65536) (h : Sc l 0 ts) : scanL l = (ts, 0, 0) := by
  unfold scanL; rw [if_neg (by omega), sc_scan h]
theorem scanL_ok {l : List UInt8} {ts : List Tok} {q : Int} (h : scanL l = (ts, q, 0)) : Sc l 0 ts ∧ q = 0 ∧ l.length ≤ 65536 := by
  unfold scanL at h
  split at h
  · injection h with _ h2; injection h2 with _ h3; exact absurd h3 (by decide)
  · obtain ⟨h1, h2⟩ := scan_ok h
    exact ⟨h1, h2, by omega⟩
theorem scanL_err {l : List UInt8} {ts : List Tok} {q e : Int} (h : scanL l = (ts, q, e)) (he : e ≠ 0) : ts = [] := by
  unfold scanL at h
  split at h
  · injection h with h1 _; exact h1.symm
  · exact scan_err h he

/-- A word of letters, digits and underscores up to the end. -/
theorem next_word {w : List UInt8} (hw : ∀ c ∈ w, wrdB c = true) (hl : letB (w.getD 0 0) = true) (a : Int) (u : List UInt8) (hu : u = [] ∨ ∃ c u', u = c :: u' ∧ wrdB c = false) (hne : w ≠ []) :
    nextL (w ++ u) a = if keyL7.contains w = true then (⟨5, w, V0, a⟩, 0) else if 16 < w.length then (T0, 7) else (⟨1, w, V0, a⟩, 0) := by
  have e : wordLen (w ++ u) = w.length := by
    rcases hu with rfl | ⟨c, u', rfl, hc⟩
    · rw [List.append_nil]; exact wordLen_whole hw
    · exact wordLen_app hw hc
  unfold nextL
  rw [getD0_app hne, if_pos hl]
  unfold wordTok
  rw [e, List.take_left]
theorem let_not_wht {c : UInt8} (h : letB c = true) : whtB c = false := by
  cases hw : whtB c
  · rfl
  · have := (wht_not_wrd hw).2.2
    rw [h] at this
    exact absurd this (by decide)
theorem sc_word {w : List UInt8} (hw : ∀ c ∈ w, wrdB c = true) (hl : letB (w.getD 0 0) = true) (hne : w ≠ []) (k : Int) (hk : (if keyL7.contains w = true then ((⟨5, w, V0, 0⟩ : Tok), (0 : Int)) else if 16 < w.length then (T0, 7) else (⟨1, w, V0, 0⟩, 0)) = (⟨k, w, V0, 0⟩, 0)) :
    Sc w 0 [⟨k, w, V0, 0⟩, ⟨0, [], V0, w.length⟩] := by
  refine Sc.tok hne (let_not_wht hl) (t := ⟨k, w, V0, 0⟩) ?_ ?_
  · have := next_word hw hl 0 [] (.inl rfl) hne
    rw [List.append_nil] at this
    rw [this, hk]
  · simp only [List.drop_length]
    rw [Int.zero_add]
    exact Sc.nil _

theorem keys_words : ∀ k ∈ keyL7, (∀ c ∈ k, wrdB c = true) ∧ letB (k.getD 0 0) = true ∧ k ≠ [] ∧ k.length ≤ 5 ∧ keyL7.contains k = true ∧ keyL7.contains (k ++ [120]) = false := by decide
theorem scan_key {k : List UInt8} (hk : k ∈ keyL7) : scanL k = ([⟨5, k, V0, 0⟩, ⟨0, [], V0, k.length⟩], 0, 0) := by
  obtain ⟨h1, h2, h3, h4, h5, _⟩ := keys_words k hk
  exact scanL_sc (by omega) (sc_word h1 h2 h3 5 (by rw [if_pos h5]))
theorem scan_keyx {k : List UInt8} (hk : k ∈ keyL7) : scanL (k ++ [120]) = ([⟨1, k ++ [120], V0, 0⟩, ⟨0, [], V0, (k ++ [120]).length⟩], 0, 0) := by
  obtain ⟨h1, h2, h3, h4, _, h6⟩ := keys_words k hk
  refine scanL_sc (by simp; omega) (sc_word ?_ ?_ (by simp) 1 ?_)
  · intro c hc
    rcases List.mem_append.1 hc with hc | hc
    · exact h1 c hc
    · obtain rfl : c = 120 := by simpa using hc
      decide
  · rw [getD0_app h3]; exact h2
  · rw [if_neg (by rw [h6]; decide), if_neg (by simp; omega)]

/-- The word of LexerWords: an a, n times b, a blank behind it. -/
theorem ab_words (n : Nat) : (∀ c ∈ ((97 : UInt8) :: List.replicate n 98), wrdB c = true) ∧ keyL7.contains ((97 : UInt8) :: List.replicate n 98) = false := by
  constructor
  · intro c hc
    rcases List.mem_cons.1 hc with rfl | hc
    · decide
    · rw [(List.mem_replicate.1 hc).2]; decide
  · rw [Bool.eq_false_iff]
    intro h
    rw [List.contains_iff_mem] at h
    have : ∀ k ∈ keyL7, k.getD 0 0 ≠ 97 := by decide
    exact this _ h rfl
theorem scan_ab (n : Nat) (hn : n ≤ 200) : scanL (97 :: (List.replicate n 98 ++ [32])) = if 15 < n then ([], 0, 7) else ([⟨1, 97 :: List.replicate n 98, V0, 0⟩, ⟨0, [], V0, n + 2⟩], 0, 0) := by
  obtain ⟨h1, h2⟩ := ab_words n
  have hnx := next_word h1 (by rfl) 0 [32] (.inr ⟨32, [], rfl, by decide⟩) (by simp)
  rw [h2, if_neg (by decide)] at hnx
  have e : ((97 : UInt8) :: (List.replicate n 98 ++ [32])) = (97 :: List.replicate n 98) ++ [32] := rfl
  by_cases h : 15 < n
  · rw [if_pos (by simp; omega)] at hnx
    rw [if_pos h]
    unfold scanL
    rw [if_neg (by simp; omega), e, scan1_bad (by simp) (by simp [whtB]) (by rw [hnx]; decide), hnx]
  · rw [if_neg (by simp; omega)] at hnx
    rw [if_neg h, e]
    refine scanL_sc (by simp; omega) (Sc.tok (by simp) (by simp [whtB]) hnx ?_)
    simp only [List.drop_left]
    refine Sc.white (by decide) ?_
    have : (0 : Int) + ((97 :: List.replicate n (98 : UInt8)).length : Int) + 1 = n + 2 := by simp; omega
    rw [this]
    exact Sc.nil _

/-! ### The examples -/
def exL : List UInt8 := [97, 110, 115, 40, 120, 41, 32, 58, 45, 32, 114, 40, 120, 44, 45, 53, 41, 44, 32, 120, 32, 33, 61, 32, 34, 97, 34]
def exToks : List Tok := [⟨1, [97, 110, 115], V0, 0⟩, ⟨4, [40], V0, 3⟩, ⟨1, [120], V0, 4⟩, ⟨4, [41], V0, 5⟩, ⟨4, [58, 45], V0, 7⟩, ⟨1, [114], V0, 10⟩, ⟨4, [40], V0, 11⟩, ⟨1, [120], V0, 12⟩, ⟨4, [44], V0, 13⟩, ⟨2, [45, 53], ⟨1, -5, ⟨#[]⟩⟩, 14⟩, ⟨4, [41], V0, 16⟩, ⟨4, [44], V0, 17⟩, ⟨1, [120], V0, 19⟩, ⟨4, [33, 61], V0, 21⟩, ⟨3, [34, 97, 34], strV [97], 24⟩, ⟨0, [], V0, 27⟩]
theorem ex_m5 : parseL [45, 53] = (⟨1, -5, ⟨#[]⟩⟩, 0) := by
  have h : textL ⟨1, -5, ⟨#[]⟩⟩ = [45, 53] := by
    rw [textL_int (by decide +kernel) rfl]
    show Lib.itoa (-5) = _
    unfold Lib.itoa
    rw [if_pos (by decide)]
    show 45 :: Lib.decDigits 5 = _
    rw [Lib.decDigits_one (by decide)]; rfl
  rw [← h]
  exact parse_text (by decide +kernel) ⟨by decide, by decide⟩
theorem ex_a : parseL [34, 97, 34] = (strV [97], 0) := by
  have h : textL (strV [97]) = [34, 97, 34] := by
    rw [textL_str (by decide +kernel) (by decide)]; rfl
  rw [← h]
  exact parse_text (by decide +kernel) ⟨by decide, by decide⟩
theorem tok_step {r : List UInt8} {a : Int} {t : Tok} {ts : List Tok} {r' : List UInt8} {b : Int} (hr : r ≠ []) (hw : whtB (r.getD 0 0) = false) (h : nextL r a = (t, 0)) (h1 : r.drop t.t.length = r') (h2 : a + t.t.length = b) (hs : Sc r' b ts) : Sc r a (t :: ts) :=
  Sc.tok hr hw h (by rw [h1, h2]; exact hs)
theorem lit_of {k : Int} {x : List UInt8} {v : V} (h : parseL x = (v, 0)) (a : Int) : litTok k x a = (⟨k, x, v, a⟩, 0) := by
  unfold litTok; rw [h, if_pos rfl]
theorem ex_scan : scanL exL = (exToks, 0, 0) := by
  refine scanL_sc (by decide) ?_
  unfold exL exToks
  refine tok_step (by decide) (by decide) (by rfl) rfl rfl ?_
  refine tok_step (by decide) (by decide) (by rfl) rfl rfl ?_
  refine tok_step (by decide) (by decide) (by rfl) rfl rfl ?_
  refine tok_step (by decide) (by decide) (by rfl) rfl rfl ?_
  refine Sc.white (by decide) ?_
  refine tok_step (by decide) (by decide) (by rfl) rfl rfl ?_
  refine Sc.white (by decide) ?_
  refine tok_step (by decide) (by decide) (by rfl) rfl rfl ?_
  refine tok_step (by decide) (by decide) (by rfl) rfl rfl ?_
  refine tok_step (by decide) (by decide) (by rfl) rfl rfl ?_
  refine tok_step (by decide) (by decide) (by rfl) rfl rfl ?_
  refine tok_step (by decide) (by decide) (show nextL _ _ = _ from lit_of ex_m5 _) rfl rfl ?_
  refine tok_step (by decide) (by decide) (by rfl) rfl rfl ?_
  refine tok_step (by decide) (by decide) (by rfl) rfl rfl ?_
  refine Sc.white (by decide) ?_
  refine tok_step (by decide) (by decide) (by rfl) rfl rfl ?_
  refine Sc.white (by decide) ?_
  refine tok_step (by decide) (by decide) (by rfl) rfl rfl ?_
  refine Sc.white (by decide) ?_
  refine tok_step (by decide) (by decide) (show nextL _ _ = _ from lit_of ex_a _) rfl rfl ?_
  exact Sc.nil _
theorem ex_bad : scanL [120, 32, 45, 32, 49] = ([], 2, 15) := by
  unfold scanL
  rw [if_neg (by decide), scan1_tok (t := ⟨1, [120], V0, 0⟩) (by decide) (by decide) (by rfl)]
  have e : scan1 (([120, 32, 45, 32, 49] : List UInt8).drop ([120] : List UInt8).length) (0 + (([120] : List UInt8).length : Int)) = ([], 2, 15) := by
    show scan1 [32, 45, 32, 49] 1 = _
    rw [scan1_white (by decide), scan1_bad (by decide) (by decide) (by decide)]
    rfl
  simp only at e ⊢
  rw [e]
  rfl
end

/-! ### PgA -/
section

theorem pga_5 : parseL [53] = (⟨1, 5, ⟨#[]⟩⟩, 0) := by
  have h : textL ⟨1, 5, ⟨#[]⟩⟩ = [53] := by
    rw [textL_int (by decide +kernel) rfl]
    show Lib.itoa 5 = _
    unfold Lib.itoa
    rw [if_neg (by decide)]
    show Lib.decDigits 5 = _
    rw [Lib.decDigits_one (by decide)]; rfl
  rw [← h]
  exact parse_text (by decide +kernel) ⟨by decide, by decide⟩
def aw1B : ByteArray := ⟨#[97, 110, 115, 40, 120, 44, 32, 121, 41, 32, 58, 45, 32, 114, 40, 120, 44, 32, 122, 41, 44, 32, 115, 40, 122, 44, 32, 121, 41, 44, 32, 110, 111, 116, 32, 116, 40, 120, 44, 32, 121, 41, 44, 32, 122, 32, 60, 32, 53, 32, 111, 114, 100, 101, 114, 32, 121, 32, 100, 101, 115, 99, 44, 32, 120]⟩
def aw1T : List Tok := [⟨1, [97, 110, 115], V0, 0⟩, ⟨4, [40], V0, 3⟩, ⟨1, [120], V0, 4⟩, ⟨4, [44], V0, 5⟩, ⟨1, [121], V0, 7⟩, ⟨4, [41], V0, 8⟩, ⟨4, [58, 45], V0, 10⟩, ⟨1, [114], V0, 13⟩, ⟨4, [40], V0, 14⟩, ⟨1, [120], V0, 15⟩, ⟨4, [44], V0, 16⟩, ⟨1, [122], V0, 18⟩, ⟨4, [41], V0, 19⟩, ⟨4, [44], V0, 20⟩, ⟨1, [115], V0, 22⟩, ⟨4, [40], V0, 23⟩, ⟨1, [122], V0, 24⟩, ⟨4, [44], V0, 25⟩, ⟨1, [121], V0, 27⟩, ⟨4, [41], V0, 28⟩, ⟨4, [44], V0, 29⟩, ⟨5, [110, 111, 116], V0, 31⟩, ⟨1, [116], V0, 35⟩, ⟨4, [40], V0, 36⟩, ⟨1, [120], V0, 37⟩, ⟨4, [44], V0, 38⟩, ⟨1, [121], V0, 40⟩, ⟨4, [41], V0, 41⟩, ⟨4, [44], V0, 42⟩, ⟨1, [122], V0, 44⟩, ⟨4, [60], V0, 46⟩, ⟨2, [53], ⟨1, 5, ⟨#[]⟩⟩, 48⟩, ⟨5, [111, 114, 100, 101, 114], V0, 50⟩, ⟨1, [121], V0, 56⟩, ⟨5, [100, 101, 115, 99], V0, 58⟩, ⟨4, [44], V0, 62⟩, ⟨1, [120], V0, 64⟩, ⟨0, [], V0, 65⟩]
theorem aw1_scan : scanL aw1B.data.toList = (aw1T, 0, 0) := by
  refine scanL_sc (by decide) ?_
  unfold aw1B aw1T
  refine tok_step (by decide) (by decide) (by rfl) rfl rfl ?_
  refine tok_step (by decide) (by decide) (by rfl) rfl rfl ?_
  refine tok_step (by decide) (by decide) (by rfl) rfl rfl ?_
  refine tok_step (by decide) (by decide) (by rfl) rfl rfl ?_
  refine Sc.white (by decide) ?_
  refine tok_step (by decide) (by decide) (by rfl) rfl rfl ?_
  refine tok_step (by decide) (by decide) (by rfl) rfl rfl ?_
  refine Sc.white (by decide) ?_
  refine tok_step (by decide) (by decide) (by rfl) rfl rfl ?_
  refine Sc.white (by decide) ?_
  refine tok_step (by decide) (by decide) (by rfl) rfl rfl ?_
  refine tok_step (by decide) (by decide) (by rfl) rfl rfl ?_
  refine tok_step (by decide) (by decide) (by rfl) rfl rfl ?_
  refine tok_step (by decide) (by decide) (by rfl) rfl rfl ?_
  refine Sc.white (by decide) ?_
  refine tok_step (by decide) (by decide) (by rfl) rfl rfl ?_
  refine tok_step (by decide) (by decide) (by rfl) rfl rfl ?_
  refine tok_step (by decide) (by decide) (by rfl) rfl rfl ?_
  refine Sc.white (by decide) ?_
  refine tok_step (by decide) (by decide) (by rfl) rfl rfl ?_
  refine tok_step (by decide) (by decide) (by rfl) rfl rfl ?_
  refine tok_step (by decide) (by decide) (by rfl) rfl rfl ?_
  refine tok_step (by decide) (by decide) (by rfl) rfl rfl ?_
  refine Sc.white (by decide) ?_
  refine tok_step (by decide) (by decide) (by rfl) rfl rfl ?_
  refine tok_step (by decide) (by decide) (by rfl) rfl rfl ?_
  refine tok_step (by decide) (by decide) (by rfl) rfl rfl ?_
  refine Sc.white (by decide) ?_
  refine tok_step (by decide) (by decide) (by rfl) rfl rfl ?_
  refine Sc.white (by decide) ?_
  refine tok_step (by decide) (by decide) (by rfl) rfl rfl ?_
  refine tok_step (by decide) (by decide) (by rfl) rfl rfl ?_
  refine tok_step (by decide) (by decide) (by rfl) rfl rfl ?_
  refine tok_step (by decide) (by decide) (by rfl) rfl rfl ?_
  refine Sc.white (by decide) ?_
  refine tok_step (by decide) (by decide) (by rfl) rfl rfl ?_
  refine tok_step (by decide) (by decide) (by rfl) rfl rfl ?_
  refine tok_step (by decide) (by decide) (by rfl) rfl rfl ?_
  refine Sc.white (by decide) ?_
  refine tok_step (by decide) (by decide) (by rfl) rfl rfl ?_
  refine Sc.white (by decide) ?_
  refine tok_step (by decide) (by decide) (by rfl) rfl rfl ?_
  refine Sc.white (by decide) ?_
  refine tok_step (by decide) (by decide) (show nextL _ _ = _ from lit_of pga_5 _) rfl rfl ?_
  refine Sc.white (by decide) ?_
  refine tok_step (by decide) (by decide) (by rfl) rfl rfl ?_
  refine Sc.white (by decide) ?_
  refine tok_step (by decide) (by decide) (by rfl) rfl rfl ?_
  refine Sc.white (by decide) ?_
  refine tok_step (by decide) (by decide) (by rfl) rfl rfl ?_
  refine tok_step (by decide) (by decide) (by rfl) rfl rfl ?_
  refine Sc.white (by decide) ?_
  refine tok_step (by decide) (by decide) (by rfl) rfl rfl ?_
  exact Sc.nil _
theorem aw1_gram : gramQ aw1T = (⟨[[120], [121]], 0, [], [⟨[⟨false, [114], [⟨[120], V0⟩, ⟨[122], V0⟩]⟩, ⟨false, [115], [⟨[122], V0⟩, ⟨[121], V0⟩]⟩, ⟨true, [116], [⟨[120], V0⟩, ⟨[121], V0⟩]⟩], [⟨[122], 2, ⟨1, 5, ⟨#[]⟩⟩⟩]⟩], [⟨[121], true⟩, ⟨[120], false⟩]⟩, 0, 0) := by kernel_rfl
def aw2B : ByteArray := ⟨#[97, 110, 115, 40, 120, 59, 32, 115, 117, 109, 32, 122, 41, 32, 58, 45, 32, 114, 40, 120, 44, 32, 122, 41]⟩
def aw2T : List Tok := [⟨1, [97, 110, 115], V0, 0⟩, ⟨4, [40], V0, 3⟩, ⟨1, [120], V0, 4⟩, ⟨4, [59], V0, 5⟩, ⟨5, [115, 117, 109], V0, 7⟩, ⟨1, [122], V0, 11⟩, ⟨4, [41], V0, 12⟩, ⟨4, [58, 45], V0, 14⟩, ⟨1, [114], V0, 17⟩, ⟨4, [40], V0, 18⟩, ⟨1, [120], V0, 19⟩, ⟨4, [44], V0, 20⟩, ⟨1, [122], V0, 22⟩, ⟨4, [41], V0, 23⟩, ⟨0, [], V0, 24⟩]
theorem aw2_scan : scanL aw2B.data.toList = (aw2T, 0, 0) := by
  refine scanL_sc (by decide) ?_
  unfold aw2B aw2T
  refine tok_step (by decide) (by decide) (by rfl) rfl rfl ?_
  refine tok_step (by decide) (by decide) (by rfl) rfl rfl ?_
  refine tok_step (by decide) (by decide) (by rfl) rfl rfl ?_
  refine tok_step (by decide) (by decide) (by rfl) rfl rfl ?_
  refine Sc.white (by decide) ?_
  refine tok_step (by decide) (by decide) (by rfl) rfl rfl ?_
  refine Sc.white (by decide) ?_
  refine tok_step (by decide) (by decide) (by rfl) rfl rfl ?_
  refine tok_step (by decide) (by decide) (by rfl) rfl rfl ?_
  refine Sc.white (by decide) ?_
  refine tok_step (by decide) (by decide) (by rfl) rfl rfl ?_
  refine Sc.white (by decide) ?_
  refine tok_step (by decide) (by decide) (by rfl) rfl rfl ?_
  refine tok_step (by decide) (by decide) (by rfl) rfl rfl ?_
  refine tok_step (by decide) (by decide) (by rfl) rfl rfl ?_
  refine tok_step (by decide) (by decide) (by rfl) rfl rfl ?_
  refine Sc.white (by decide) ?_
  refine tok_step (by decide) (by decide) (by rfl) rfl rfl ?_
  refine tok_step (by decide) (by decide) (by rfl) rfl rfl ?_
  exact Sc.nil _
theorem aw2_gram : gramQ aw2T = (⟨[[120]], 2, [122], [⟨[⟨false, [114], [⟨[120], V0⟩, ⟨[122], V0⟩]⟩], []⟩], []⟩, 0, 0) := by kernel_rfl
def aw3B : ByteArray := ⟨#[97, 110, 115, 40, 120, 41, 32, 58, 45, 32, 114, 40, 120]⟩
def aw3T : List Tok := [⟨1, [97, 110, 115], V0, 0⟩, ⟨4, [40], V0, 3⟩, ⟨1, [120], V0, 4⟩, ⟨4, [41], V0, 5⟩, ⟨4, [58, 45], V0, 7⟩, ⟨1, [114], V0, 10⟩, ⟨4, [40], V0, 11⟩, ⟨1, [120], V0, 12⟩, ⟨0, [], V0, 13⟩]
theorem aw3_scan : scanL aw3B.data.toList = (aw3T, 0, 0) := by
  refine scanL_sc (by decide) ?_
  unfold aw3B aw3T
  refine tok_step (by decide) (by decide) (by rfl) rfl rfl ?_
  refine tok_step (by decide) (by decide) (by rfl) rfl rfl ?_
  refine tok_step (by decide) (by decide) (by rfl) rfl rfl ?_
  refine tok_step (by decide) (by decide) (by rfl) rfl rfl ?_
  refine Sc.white (by decide) ?_
  refine tok_step (by decide) (by decide) (by rfl) rfl rfl ?_
  refine Sc.white (by decide) ?_
  refine tok_step (by decide) (by decide) (by rfl) rfl rfl ?_
  refine tok_step (by decide) (by decide) (by rfl) rfl rfl ?_
  refine tok_step (by decide) (by decide) (by rfl) rfl rfl ?_
  exact Sc.nil _
theorem aw3_gram : gramQ aw3T = (Q0, 13, 21) := by kernel_rfl
def aw4B : ByteArray := ⟨#[97, 110, 115, 40, 120, 41, 32, 58, 45]⟩
def aw4T : List Tok := [⟨1, [97, 110, 115], V0, 0⟩, ⟨4, [40], V0, 3⟩, ⟨1, [120], V0, 4⟩, ⟨4, [41], V0, 5⟩, ⟨4, [58, 45], V0, 7⟩, ⟨0, [], V0, 9⟩]
theorem aw4_scan : scanL aw4B.data.toList = (aw4T, 0, 0) := by
  refine scanL_sc (by decide) ?_
  unfold aw4B aw4T
  refine tok_step (by decide) (by decide) (by rfl) rfl rfl ?_
  refine tok_step (by decide) (by decide) (by rfl) rfl rfl ?_
  refine tok_step (by decide) (by decide) (by rfl) rfl rfl ?_
  refine tok_step (by decide) (by decide) (by rfl) rfl rfl ?_
  refine Sc.white (by decide) ?_
  refine tok_step (by decide) (by decide) (by rfl) rfl rfl ?_
  exact Sc.nil _
theorem aw4_gram : gramQ aw4T = (Q0, 9, 21) := by kernel_rfl
end

/-! ### PsL -/
section

theorem Sc.tail {l : List UInt8} {a : Int} {ts : List Tok} (h : Sc l a ts) : ∃ pre b, ts = pre ++ [⟨0, [], V0, b⟩] := by
  induction h with
  | nil a => exact ⟨[], a, rfl⟩
  | white h hs ih => exact ih
  | tok hr hw h hs ih =>
    obtain ⟨pre, b, e⟩ := ih
    exact ⟨_ :: pre, b, by rw [e]; rfl⟩
theorem tkL_last {pre : List Tok} {t : Tok} {i : Nat} (hi : pre.length ≤ i) : tkL (pre ++ [t]) i = t := by
  unfold tkL
  have : min i ((pre ++ [t]).length - 1) = pre.length := by simp; omega
  rw [this]
  simp [List.getD]
theorem Sc.ended {l : List UInt8} {a : Int} {ts : List Tok} (h : Sc l a ts) : Ended ts := by
  obtain ⟨pre, b, rfl⟩ := h.tail
  refine ⟨by simp, ?_⟩
  rw [tkL_last (by simp)]
theorem nextL_lit {r : List UInt8} {a : Int} {t : Tok} (h : nextL r a = (t, 0)) (hk : t.k = 2 ∨ t.k = 3) : parseL t.t = (t.v, 0) := by
  have lit : ∀ {k : Int} {x : List UInt8}, litTok k x a = (t, 0) → parseL t.t = (t.v, 0) := fun {k x} h => by
    unfold litTok at h
    split at h
    · rename_i h0
      injection h with h1 _
      subst h1
      show parseL x = ((parseL x).1, 0)
      rw [← h0]
    · rename_i h0
      injection h with _ h2
      exact absurd h2 h0
  unfold nextL at h
  split at h
  · unfold wordTok at h
    split at h
    · injection h with h1 _; subst h1; simp at hk
    · split at h
      · injection h with _ h2; exact absurd h2 (by decide)
      · injection h with h1 _; subst h1; simp at hk
  · split at h
    · exact lit h
    · split at h
      · split at h
        · injection h with _ h2; exact absurd h2 (by decide)
        · exact lit h
      · unfold symTok at h
        split at h
        · injection h with h1 _; subst h1; simp at hk
        · injection h with _ h2; exact absurd h2 (by decide)
theorem Sc.lits {l : List UInt8} {a : Int} {ts : List Tok} (h : Sc l a ts) : ∀ t ∈ ts, (t.k = 2 ∨ t.k = 3) → parseL t.t = (t.v, 0) := by
  induction h with
  | nil a =>
    intro t ht hk
    rw [List.mem_singleton] at ht
    subst ht
    simp at hk
  | white h hs ih => exact ih
  | tok hr hw h hs ih =>
    intro t ht hk
    rcases List.mem_cons.1 ht with rfl | ht
    · exact nextL_lit h hk
    · exact ih t ht hk
theorem tkL_mem {l : List Tok} (h : Ended l) (i : Nat) : tkL l i ∈ l := by
  have hp := h.pos
  unfold tkL
  have hi : min i (l.length - 1) < l.length := by omega
  rw [List.getD_eq_getElem?_getD, List.getElem?_eq_getElem hi]
  exact List.getElem_mem hi
theorem tkL_at {l : List Tok} {i : Nat} (hi : i < l.length) : tkL l i = l[i] := by
  unfold tkL
  rw [show min i (l.length - 1) = i by omega, List.getD_eq_getElem?_getD, List.getElem?_eq_getElem hi]
  rfl
/-- The tokens with three more ends. -/
def ext3 (l : List Tok) : List Tok := l ++ [tkL l l.length, tkL l l.length, tkL l l.length]
theorem ext3_len (l : List Tok) : (ext3 l).length = l.length + 3 := by simp [ext3]
theorem ext3_at {l : List Tok} (_h : Ended l) {i : Nat} (hi : i < (ext3 l).length) : (ext3 l)[i] = tkL l i := by
  have hl := ext3_len l
  by_cases c : i < l.length
  · simp only [ext3]
    rw [List.getElem_append_left c, tkL_at c]
  · have e : tkL l i = tkL l l.length := by unfold tkL; congr 1; omega
    rw [e]
    have : i = l.length ∨ i = l.length + 1 ∨ i = l.length + 2 := by omega
    rcases this with h | h | h
    · subst h; simp [ext3]
    · subst h; simp [ext3]
    · subst h; simp [ext3]
end
end Go.Proofs.YtnbacdmlaedppaaGreatDoor
