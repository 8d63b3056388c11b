/-
  PLAIN: tokens: the literals of values, words, long texts.
-/
import Derived.Test.YtgeapgbebbapmaaDoorLex3
import Derived.Test.YtgeapgbebbapmaaDoorRtP
namespace Go.Proofs.YtgeapgbebbapmaaDoor

/-! ### Strings -/
theorem strGo_plain {c : UInt8} (h1 : c ≠ 92) (h2 : c ≠ 34) (t : List UInt8) : strGo false (c :: t) = (strGo false t).map (· + 1) := by
  rw [strGo, if_neg h1, if_neg h2]
theorem strGo_esc (c : UInt8) (t : List UInt8) : strGo false (92 :: c :: t) = ((strGo false t).map (· + 1)).map (· + 1) := by
  rw [strGo, if_pos rfl, strGo]
theorem strGo_spell (c : UInt8) (t : List UInt8) {n : Nat} (h : strGo false t = some n) : strGo false (spell c ++ t) = some (n + (spell c).length) := by
  have hx : ∀ q : Nat, q < 16 → hexd q ≠ 92 ∧ hexd q ≠ 34 := by decide
  have hc : c.toNat < 256 := c.toNat_lt
  unfold spell
  split
  · simp only [List.cons_append, List.nil_append, strGo_esc, h, Option.map_some, List.length_cons, List.length_nil]
  · split
    · simp only [List.cons_append, List.nil_append, strGo_esc, h, Option.map_some, List.length_cons, List.length_nil]
    · split
      · simp only [List.cons_append, List.nil_append, strGo_esc, h, Option.map_some, List.length_cons, List.length_nil]
      · split
        · rename_i g1 _ _ _
          have h1 : c ≠ 92 := fun e => g1 (.inr (by rw [e]; rfl))
          have h2 : c ≠ 34 := fun e => g1 (.inl (by rw [e]; rfl))
          simp only [List.cons_append, List.nil_append, strGo_plain h1 h2, h, Option.map_some, List.length_cons, List.length_nil]
        · obtain ⟨a1, a2⟩ := hx (c.toNat / 16) (by omega)
          obtain ⟨b1, b2⟩ := hx (c.toNat % 16) (by omega)
          simp only [List.cons_append, List.nil_append, strGo_esc, strGo_plain a1 a2, strGo_plain b1 b2, h, Option.map_some, List.length_cons, List.length_nil]
theorem strGo_spells : ∀ (l : List UInt8) (t : List UInt8), strGo false (l.flatMap spell ++ 34 :: t) = some ((l.flatMap spell).length + 1)
  | [], t => by simp [strGo]
  | c :: l, t => by
    rw [List.flatMap_cons, List.append_assoc, strGo_spell c _ (strGo_spells l t), List.length_append]
    congr 1; omega
theorem strLen_quote (l t : List UInt8) : strLen (quoteL l ++ t) = some (quoteL l).length := by
  unfold strLen quoteL
  have e : ((34 : UInt8) :: (l.flatMap spell ++ [34]) ++ t).drop 1 = l.flatMap spell ++ 34 :: t := by simp
  rw [e, strGo_spells]
  simp

/-! ### Numbers -/
theorem dig_wrd {c : UInt8} (h : 48 ≤ c.toNat ∧ c.toNat ≤ 57) : wrdB c = true ∧ digB c = true ∧ letB c = false := by
  have h1 : digB c = true := by unfold digB; simp [h]
  refine ⟨by unfold wrdB; rw [h1]; simp, h1, ?_⟩
  unfold letB
  simp; omega
theorem num_not_let {c : UInt8} (h : c.toNat = 45 ∨ (48 ≤ c.toNat ∧ c.toNat ≤ 57)) : letB c = false := by
  unfold letB
  simp; omega
theorem takeWhile_app {p : UInt8 → Bool} : ∀ (r u : List UInt8), (∀ c ∈ r, p c = true) → (r ++ u).takeWhile p = r ++ u.takeWhile p
  | [], u, _ => rfl
  | x :: r, u, h => by
    rw [List.cons_append, List.takeWhile_cons, if_pos (h x (by simp)), takeWhile_app r u fun c hc => h c (by simp [hc])]; rfl
theorem wordLen_app {r u : List UInt8} {c : UInt8} (hr : ∀ c ∈ r, wrdB c = true) (hc : wrdB c = false) : wordLen (r ++ c :: u) = r.length := by
  unfold wordLen
  rw [takeWhile_app r _ hr, List.takeWhile_cons, if_neg (by rw [hc]; decide), List.append_nil]
theorem wordLen_whole {r : List UInt8} (hr : ∀ c ∈ r, wrdB c = true) : wordLen r = r.length := by
  have := takeWhile_app r [] hr
  unfold wordLen
  rw [List.append_nil] at this
  rw [this]; simp

/-- The literal of a number, of a string, before a byte that belongs to no word. -/
theorem nextL_text {v : V} (hv : v.valid = true) (hn : I64 v.n) (c : UInt8) (hc : wrdB c = false) (u : List UInt8) (a : Int) :
    nextL (textL v ++ c :: u) a = (⟨if v.k = 1 then 2 else 3, textL v, v, a⟩, 0) := by
  have hp := parse_text hv hn
  have lit : ∀ k, litTok k (textL v) a = (⟨k, textL v, v, a⟩, 0) := fun k => by unfold litTok; rw [hp, if_pos rfl]
  by_cases h1 : v.k = 1
  · rw [if_pos h1]
    have ht := textL_int hv h1
    have hne : textL v ≠ [] := by rw [ht]; exact itoa_ne_nil _
    have hb := itoa_bytes v.n
    rw [← ht] at hb
    have hd1 : ∀ x ∈ (textL v).drop 1, 48 ≤ x.toNat ∧ x.toNat ≤ 57 := by
      rw [ht]; unfold Lib.itoa
      split
      · exact fun x hx => dec_digits _ x (by simpa using hx)
      · exact fun x hx => dec_digits _ x (List.mem_of_mem_drop hx)
    have hlen : (textL v).getD 0 0 = 45 → 1 < (textL v).length ∧ digB ((textL v).getD 1 0) = true := by
      rw [ht]; unfold Lib.itoa
      split
      · intro _
        have h0 := dec_ne_nil v.n.natAbs
        have hd := dec_digits v.n.natAbs
        match Lib.decDigits v.n.natAbs, h0, hd with
        | x :: r, _, hd => exact ⟨by simp, (dig_wrd (hd x (by simp))).2.1⟩
      · intro h
        have h0 := dec_ne_nil v.n.toNat
        have hd := dec_digits v.n.toNat
        match Lib.decDigits v.n.toNat, h0, hd, h with
        | x :: r, _, hd, h =>
          have := hd x (by simp)
          have h' : x = 45 := h
          subst h'
          exact absurd this (by decide)
    generalize textL v = l at *
    unfold nextL
    rw [getD0_app hne]
    have hx0 := hb (l.getD 0 0) (by match l, hne with | x :: r, _ => exact List.mem_cons_self)
    have hlet : letB (l.getD 0 0) = false := num_not_let hx0
    rw [hlet, if_neg (by decide)]
    have hnum : numB (l ++ c :: u) = true := by
      unfold numB
      rw [getD0_app hne]
      rcases hx0 with h | h
      · have h45 : l.getD 0 0 = 45 := UInt8.toNat.inj h
        obtain ⟨q1, q2⟩ := hlen h45
        match l, q1, q2, h45 with
        | x :: y :: r, _, q2, h45 =>
          have q2' : digB y = true := q2
          have h45' : x = 45 := h45
          subst h45'
          simp [q2']
      · rw [(dig_wrd h).2.1]; rfl
    rw [if_pos hnum, drop1_app hne, wordLen_app (fun x hx => (dig_wrd (hd1 x hx)).1) hc]
    have e : 1 + (l.drop 1).length = l.length := by
      rw [List.length_drop]
      have := List.length_pos_iff.2 hne
      omega
    rw [e, List.take_left]
    exact lit 2
  · rw [if_neg h1]
    have ht := textL_str hv h1
    have hne : textL v ≠ [] := by rw [ht]; simp [quoteL]
    have h34 : (textL v).getD 0 0 = 34 := by rw [ht]; rfl
    have hs : strLen (textL v ++ c :: u) = some (textL v).length := by rw [ht]; exact strLen_quote _ _
    unfold nextL
    rw [getD0_app hne, h34, if_neg (by decide), hs]
    have hnum : numB (textL v ++ c :: u) = false := by
      unfold numB; rw [getD0_app hne, h34]; rfl
    rw [hnum, if_neg (by decide), if_pos rfl]
    simp only
    rw [List.take_left]
    exact lit 3

theorem symTok_one {r : List UInt8} {y : List UInt8} (a : Int) (hr : symL.find? (fun z => z.isPrefixOf r) = some y) : symTok r a = (⟨4, y, V0, a⟩, 0) := by
  unfold symTok; rw [hr]
theorem next_open (u : List UInt8) (a : Int) : nextL (40 :: u) a = (⟨4, [40], V0, a⟩, 0) := by
  unfold nextL
  rw [if_neg (by simp [letB]), if_neg (by simp [numB, digB]), if_neg (by simp)]
  exact symTok_one a (by simp [symL])
theorem next_close (u : List UInt8) (a : Int) : nextL (41 :: u) a = (⟨4, [41], V0, a⟩, 0) := by
  unfold nextL
  rw [if_neg (by simp [letB]), if_neg (by simp [numB, digB]), if_neg (by simp)]
  exact symTok_one a (by simp [symL])

theorem textL_ne {v : V} (hv : v.valid = true) : textL v ≠ [] := by
  by_cases h1 : v.k = 1
  · rw [textL_int hv h1]; exact itoa_ne_nil _
  · rw [textL_str hv h1]; simp [quoteL]
theorem textL_head {v : V} (hv : v.valid = true) : whtB ((textL v).getD 0 0) = false := by
  by_cases h1 : v.k = 1
  · rw [textL_int hv h1]
    have hb := itoa_bytes v.n
    have hne := itoa_ne_nil v.n
    have := hb ((Lib.itoa v.n).getD 0 0) (by
      match Lib.itoa v.n, hne with
      | x :: r, _ => exact List.mem_cons_self)
    generalize (Lib.itoa v.n).getD 0 0 = x at *
    have key : ∀ i : Fin 256, (i.val = 45 ∨ (48 ≤ i.val ∧ i.val ≤ 57)) → whtB (UInt8.ofNat i.val) = false := by decide +kernel
    have k2 := key ⟨x.toNat, x.toNat_lt⟩ this
    simpa using k2
  · rw [textL_str hv h1]; show whtB 34 = false; decide

/-- Between parentheses. -/
theorem sc_value {v : V} (hv : v.valid = true) (hn : I64 v.n) :
    Sc (40 :: (textL v ++ [41])) 0 [⟨4, [40], V0, 0⟩, ⟨if v.k = 1 then 2 else 3, textL v, v, 1⟩, ⟨4, [41], V0, 1 + (textL v).length⟩, ⟨0, [], V0, 1 + (textL v).length + 1⟩] := by
  have hne := textL_ne hv
  refine Sc.tok (by simp) (by simp [whtB]) (next_open _ 0) ?_
  simp only [List.length_cons, List.length_nil, List.drop_succ_cons, List.drop_zero]
  refine Sc.tok (by simp) (by rw [getD0_app hne]; exact textL_head hv) (nextL_text hv hn 41 (by decide) [] _) ?_
  simp only [List.drop_left]
  refine Sc.tok (by simp) (by simp [whtB]) (next_close [] _) ?_
  simp only [List.length_cons, List.length_nil, List.drop_succ_cons, List.drop_zero]
  exact Sc.nil _

/-! ### Long texts -/
theorem sc_blanks {c : UInt8} (hc : whtB c = true) : ∀ (n : Nat) (a : Int), Sc (List.replicate n c) a [⟨0, [], V0, a + n⟩]
  | 0, a => by simpa using Sc.nil a
  | n + 1, a => by
    rw [List.replicate_succ]
    refine Sc.white hc ?_
    have := sc_blanks hc n (a + 1)
    rw [show a + ((n + 1 : Nat) : Int) = a + 1 + n by omega]
    exact this
theorem sc_opens : ∀ (n : Nat) (a : Int), ∃ ts, Sc (List.replicate n 40) a ts ∧ ts.length = n + 1
  | 0, a => ⟨_, Sc.nil a, rfl⟩
  | n + 1, a => by
    obtain ⟨ts, h1, h2⟩ := sc_opens n (a + 1)
    refine ⟨_, Sc.tok (by simp) (by simp [List.replicate_succ, whtB]) (by rw [List.replicate_succ]; exact next_open _ a) ?_, by rw [List.length_cons, h2]⟩
    simpa [List.replicate_succ] using h1
end Go.Proofs.YtgeapgbebbapmaaDoor
