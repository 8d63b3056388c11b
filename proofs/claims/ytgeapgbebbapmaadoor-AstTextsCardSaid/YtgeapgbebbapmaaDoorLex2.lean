/-
  PLAIN: tokens, continued: a token depends on its own bytes alone, where white space or nothing follows.
-/
import Derived.Test.YtgeapgbebbapmaaDoorLex
namespace Go.Proofs.YtgeapgbebbapmaaDoor

theorem takeWhile_stop {p : UInt8 → Bool} {c : UInt8} (hc : p c = false) : ∀ (r u : List UInt8), (r ++ c :: u).takeWhile p = r.takeWhile p
  | [], u => by simp [hc]
  | x :: r, u => by
    simp only [List.cons_append, List.takeWhile_cons]
    split
    · rw [takeWhile_stop hc r u]
    · rfl
theorem wht_not_wrd {c : UInt8} (h : whtB c = true) : wrdB c = false ∧ digB c = false ∧ letB c = false := by
  have key : ∀ i : Fin 256, whtB (UInt8.ofNat i.val) = true → wrdB (UInt8.ofNat i.val) = false ∧ digB (UInt8.ofNat i.val) = false ∧ letB (UInt8.ofNat i.val) = false := by decide +kernel
  have := key ⟨c.toNat, c.toNat_lt⟩
  simp only [UInt8.ofNat_toNat] at this
  exact this h
theorem wordLen_stop {c : UInt8} (hc : whtB c = true) (r u : List UInt8) : wordLen (r ++ c :: u) = wordLen r := by
  unfold wordLen; rw [takeWhile_stop (wht_not_wrd hc).1]
theorem take_app {r u : List UInt8} {n : Nat} (h : n ≤ r.length) : (r ++ u).take n = r.take n := List.take_append_of_le_length h
theorem getD0_app {r u : List UInt8} (h : r ≠ []) : (r ++ u).getD 0 0 = r.getD 0 0 := by
  match r, h with
  | x :: r', _ => rfl
theorem drop1_app {r u : List UInt8} (h : r ≠ []) : (r ++ u).drop 1 = r.drop 1 ++ u := by
  match r, h with
  | x :: r', _ => rfl

theorem sym_white : ∀ y ∈ symL, ∀ c ∈ y, whtB c = false := by decide
theorem pre_stop {c : UInt8} (hc : whtB c = true) {y : List UInt8} (hy : y ∈ symL) (r u : List UInt8) : y.isPrefixOf (r ++ c :: u) = y.isPrefixOf r := by
  rw [Bool.eq_iff_iff, List.isPrefixOf_iff_prefix, List.isPrefixOf_iff_prefix]
  constructor
  · intro h
    by_cases hl : y.length ≤ r.length
    · exact List.prefix_of_prefix_length_le h (List.prefix_append r (c :: u)) hl
    · exfalso
      have e := List.prefix_iff_eq_take.1 h
      have hm : c ∈ y := by
        rw [e, List.mem_iff_getElem?]
        refine ⟨r.length, ?_⟩
        rw [List.getElem?_take_of_lt (by omega)]
        simp
      have := sym_white y hy c hm
      rw [hc] at this
      exact absurd this (by decide)
  · intro h
    exact h.trans (List.prefix_append r (c :: u))
theorem find_congr' {α : Type} {p q : α → Bool} : ∀ (l : List α), (∀ x ∈ l, p x = q x) → l.find? p = l.find? q
  | [], _ => rfl
  | x :: l, h => by
    rw [List.find?_cons, List.find?_cons, h x (by simp), find_congr' l fun y hy => h y (by simp [hy])]

theorem numB_stop {c : UInt8} (hc : whtB c = true) {r : List UInt8} (hr : r ≠ []) (u : List UInt8) : numB (r ++ c :: u) = numB r := by
  have hd := (wht_not_wrd hc).2.1
  match r, hr with
  | [x], _ => simp [numB, hd]
  | x :: y :: r', _ => simp [numB]

theorem strLen_ext {r u : List UInt8} {n : Nat} (hr : r ≠ []) (h : strLen r = some n) : strLen (r ++ u) = some n := by
  unfold strLen at *
  rw [drop1_app hr]
  simp only [Option.map_eq_some_iff] at *
  obtain ⟨m, hm, rfl⟩ := h
  exact ⟨m, strGo_ext _ _ _ _ hm, rfl⟩

/-- What follows behind white space is not seen. -/
theorem nextL_ext {r : List UInt8} {a : Int} {t : Tok} {c : UInt8} (hc : whtB c = true) (u : List UInt8) (hr : r ≠ []) (h : nextL r a = (t, 0)) : nextL (r ++ c :: u) a = (t, 0) := by
  unfold nextL at *
  rw [getD0_app hr, numB_stop hc hr]
  split at h
  · rename_i g
    rw [if_pos g]
    unfold wordTok at *
    rw [wordLen_stop hc, take_app (wordLen_le r)]
    exact h
  · rename_i g
    rw [if_neg g]
    split at h
    · rename_i g2
      rw [if_pos g2, drop1_app hr, wordLen_stop hc, take_app]
      · exact h
      · have := wordLen_le (r.drop 1)
        rw [List.length_drop] at this
        have := List.length_pos_iff.2 hr
        omega
    · rename_i g2
      rw [if_neg g2]
      split at h
      · rename_i g3
        rw [if_pos g3]
        split at h
        · injection h with _ h2; exact absurd h2 (by decide)
        · rename_i n hn
          rw [strLen_ext hr hn]
          simp only
          rw [take_app (strLen_le hn).2]
          exact h
      · rename_i g3
        rw [if_neg g3]
        unfold symTok at *
        rw [find_congr' symL fun y hy => pre_stop hc hy r u]
        exact h

theorem takeWhile_all {p : UInt8 → Bool} : ∀ (l : List UInt8), (l.takeWhile p).takeWhile p = l.takeWhile p
  | [] => rfl
  | x :: l => by
    by_cases h : p x = true
    · simp [h, takeWhile_all l]
    · simp [h]
theorem wordLen_self (l : List UInt8) : wordLen (l.take (wordLen l)) = wordLen l := by
  rw [wordLen_take]; unfold wordLen; rw [takeWhile_all]
theorem getD_take {l : List UInt8} {n k : Nat} (h : k < n) : (l.take n).getD k 0 = l.getD k 0 := by
  rw [List.getD_eq_getElem?_getD, List.getD_eq_getElem?_getD, List.getElem?_take_of_lt h]
theorem sym_self : ∀ y ∈ symL, letB (y.getD 0 0) = false ∧ numB y = false ∧ y.getD 0 0 ≠ 34 ∧ symL.find? (fun z => z.isPrefixOf y) = some y := by decide

/-- A token's text by itself. -/
theorem nextL_cut {r : List UInt8} {a : Int} {t : Tok} (b : Int) (hr : r ≠ []) (h : nextL r a = (t, 0)) : nextL t.t b = (⟨t.k, t.t, t.v, b⟩, 0) := by
  unfold nextL at h
  split at h
  · rename_i g
    have hw : 0 < wordLen r := by
      match r, hr with
      | c :: r', _ =>
        have : wrdB c = true := by unfold wrdB; simp at g; rw [g]; rfl
        simp [wordLen, this]
    have key : ∀ k v, t = ⟨k, r.take (wordLen r), v, a⟩ → wordTok r a = (t, 0) → nextL t.t b = (⟨t.k, t.t, t.v, b⟩, 0) := by
      rintro k v rfl hh
      unfold nextL
      simp only
      rw [getD_take hw, if_pos g]
      unfold wordTok at hh ⊢
      rw [wordLen_self, List.take_take, Nat.min_self]
      split at hh
      · rename_i g2
        rw [if_pos g2]
        injection hh with h1 _
        injection h1 with e1 _ e3 _
        subst e1 e3; rfl
      · rename_i g2
        rw [if_neg g2]
        split at hh
        · injection hh with _ h2; exact absurd h2 (by decide)
        · rename_i g3
          rw [if_neg g3]
          injection hh with h1 _
          injection h1 with e1 _ e3 _
          subst e1 e3; rfl
    have h' := h
    unfold wordTok at h
    split at h
    · injection h with h1 _
      exact key _ _ h1.symm h'
    · split at h
      · injection h with _ h2; exact absurd h2 (by decide)
      · injection h with h1 _
        exact key _ _ h1.symm h'
  · rename_i g
    have lit : ∀ k x, litTok k x a = (t, 0) → t = ⟨k, x, t.v, a⟩ ∧ litTok k x b = (⟨k, x, t.v, b⟩, 0) := by
      intro k x hh
      obtain ⟨h1, h2⟩ := litTok_ok hh
      refine ⟨h2, ?_⟩
      unfold litTok
      rw [h1, if_pos rfl]
    split at h
    · rename_i g2
      obtain ⟨e, hl⟩ := lit _ _ h
      have hx : t.t = r.take (1 + wordLen (r.drop 1)) := by rw [e]
      have hk : t.k = 2 := by rw [e]
      have hd : (r.take (1 + wordLen (r.drop 1))).drop 1 = (r.drop 1).take (wordLen (r.drop 1)) := by
        rw [List.drop_take]; congr 1; omega
      rw [hx, hk]
      unfold nextL
      rw [getD_take (by omega), if_neg g]
      have hn : numB (r.take (1 + wordLen (r.drop 1))) = true := by
        unfold numB at g2 ⊢
        rw [getD_take (by omega)]
        by_cases gd : digB (r.getD 0 0) = true
        · rw [gd]; rfl
        · simp only [Bool.not_eq_true] at gd
          rw [gd] at g2 ⊢
          simp only [Bool.false_or, Bool.and_eq_true, decide_eq_true_eq] at g2 ⊢
          obtain ⟨q1, q2, q3⟩ := g2
          have hw : 0 < wordLen (r.drop 1) := by
            match r, q2 with
            | x :: y :: r', _ =>
              have : wrdB y = true := by
                have q3' : digB y = true := q3
                unfold wrdB; rw [q3']; simp
              simp [wordLen, this]
          refine ⟨q1, ?_, ?_⟩
          · rw [List.length_take]
            have := wordLen_le (r.drop 1)
            rw [List.length_drop] at this
            omega
          · rw [getD_take (by omega)]; exact q3
      rw [if_pos hn, hd, wordLen_self, List.take_take, Nat.min_self]
      exact hl
    · rename_i g2
      split at h
      · rename_i g3
        split at h
        · injection h with _ h2; exact absurd h2 (by decide)
        · rename_i n hn
          obtain ⟨e, hl⟩ := lit _ _ h
          have hx : t.t = r.take n := by rw [e]
          have hk : t.k = 3 := by rw [e]
          have hle := strLen_le hn
          rw [hx, hk]
          unfold nextL
          rw [getD_take (by omega), if_neg g]
          have hnum : numB (r.take n) = false := by
            unfold numB
            rw [getD_take (by omega), g3]; rfl
          have hs : strLen (r.take n) = some n := by
            unfold strLen at hn ⊢
            simp only [Option.map_eq_some_iff] at hn ⊢
            obtain ⟨m, hm, rfl⟩ := hn
            refine ⟨m, ?_, rfl⟩
            rw [List.drop_take]
            have := strGo_cut _ _ _ hm
            rw [show m + 1 - 1 = m by omega]
            exact this
          rw [hnum, if_neg (by decide), if_pos g3, hs]
          simp only
          rw [List.take_take, Nat.min_self]
          exact hl
      · obtain ⟨y, hy, rfl⟩ := symTok_ok h
        have hm := List.mem_of_find?_eq_some hy
        obtain ⟨s1, s2, s3, s4⟩ := sym_self y hm
        unfold nextL
        simp only
        rw [s1, s2, if_neg (by decide), if_neg (by decide), if_neg s3]
        unfold symTok
        rw [s4]
end Go.Proofs.YtgeapgbebbapmaaDoor
