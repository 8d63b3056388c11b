/-
  PLAIN: rows and their texts.
-/
import Derived.Test.YtkoajdbijlpgaaaDoorRw4
import Derived.Test.YtkoajdbijlpgaaaDoorRw3
import Derived.Test.YtkoajdbijlpgaaaDoorOrd
namespace Go.Proofs.YtkoajdbijlpgaaaDoor

theorem ok_of {v : V} (hv : v.valid = true) (hn : I64 v.n) : v.ok ∧ v.s.size ≤ 24 ∧ (textL v).length ≤ 100 := by
  by_cases h1 : v.k = 1
  · have hs : v.s.toList.isEmpty = true := by simpa [V.valid, h1] using hv
    have hs0 : v.s.size = 0 := by
      rw [Lib.toList_data] at hs
      have : v.s.data.toList = [] := by simpa using hs
      have e : v.s.data.toList.length = v.s.size := by simp
      rw [this] at e; simpa using e.symm
    refine ⟨⟨by rw [h1]; unfold I64; omega, hn, by omega⟩, by omega, ?_⟩
    rw [textL_int hv h1]
    have := Lib.itoa_length_le v.n hn.1 hn.2
    omega
  · have h2 : v.k = 2 := by
      apply Classical.byContradiction
      intro h2
      simp [V.valid, h1, h2] at hv
    have hs : v.s.size ≤ 24 := by
      have : v.n = 0 ∧ v.s.size ≤ 24 := by simpa [V.valid, h2] using hv
      exact this.2
    refine ⟨⟨by rw [h2]; unfold I64; omega, hn, by omega⟩, hs, ?_⟩
    rw [textL_str hv h1]
    have := quoteL_le v.s.data.toList
    have e : v.s.data.toList.length = v.s.size := by simp
    omega
theorem rowBody_len : ∀ (vs : List V), (∀ v ∈ vs, (textL v).length ≤ 100) → (rowBody vs).length ≤ 102 * vs.length
  | [], _ => by simp [rowBody]
  | [v], h => by have := h v (by simp); rw [rowBody_one']; simp only [List.length_cons, List.length_nil]; omega
  | v :: u :: us, h => by
    have := rowBody_len (u :: us) fun x hx => h x (by simp [hx])
    have := h v (by simp)
    rw [rowBody_more]
    simp only [List.length_append, List.length_cons, List.length_nil] at *
    omega
theorem rowBody_ne : ∀ (vs : List V), vs ≠ [] → (∀ v ∈ vs, v.valid = true) → rowBody vs ≠ []
  | [], h, _ => absurd rfl h
  | v :: vs, _, h => by
    have := textL_ne (h v (by simp))
    unfold rowBody
    simp [this]
theorem getLast_snoc (l : List UInt8) (c d : UInt8) : (l ++ [c]).getD ((l ++ [c]).length - 1) d = c := by
  rw [List.getD_eq_getElem?_getD]; simp
theorem rowQ_text {r : List V} (h : ∀ v ∈ r, v.valid = true ∧ I64 v.n) : rowQ (rowTextL r) = some r := by
  match r, h with
  | [], _ => rfl
  | v :: vs, h =>
    have hne := rowBody_ne (v :: vs) (by simp) fun u hu => (h u hu).1
    have hlen := List.length_pos_iff.2 hne
    have e1 : rowTextL (v :: vs) = (40 :: rowBody (v :: vs)) ++ [41] := rfl
    unfold rowQ
    rw [if_neg, if_neg]
    · have e2 : ((rowTextL (v :: vs)).drop 1).take ((rowTextL (v :: vs)).length - 2) = rowBody (v :: vs) := by
        rw [e1]
        simp only [List.cons_append, List.drop_succ_cons, List.drop_zero, List.length_cons, List.length_append, List.length_nil]
        rw [show (rowBody (v :: vs)).length + (0 + 1) + 1 - 2 = (rowBody (v :: vs)).length by omega, List.take_left]
      rw [e2, rowP_complete (v :: vs) [] ⟨by simp, h⟩]; rfl
    · rw [e1]
      rintro (h | h | h)
      · simp only [List.length_append, List.length_cons, List.length_nil] at h; omega
      · exact h rfl
      · exact h (getLast_snoc _ _ _)
    · intro e
      have := congrArg List.length e
      rw [e1] at this
      simp only [List.length_append, List.length_cons, List.length_nil] at this
      exact absurd e (by
        intro e
        rw [e1] at e
        have h0 : rowBody (v :: vs) = [] := List.eq_nil_of_length_eq_zero (by omega)
        exact hne h0)
theorem rowQ_inv {l : List UInt8} {vs : List V} (h : rowQ l = some vs) : rowTextL vs = l ∧ (∀ v ∈ vs, v.valid = true ∧ I64 v.n) ∧ vs.length ≤ l.length := by
  unfold rowQ at h
  split at h
  · rename_i h0
    injection h with h
    subst h h0
    exact ⟨rfl, by simp, by simp⟩
  · split at h
    · cases h
    · rename_i h1
      have g1 : ¬ l.length < 2 := fun e => h1 (.inl e)
      have g2 : l.getD 0 0 = 40 := Classical.byContradiction fun e => h1 (.inr (.inl e))
      have g3 : l.getD (l.length - 1) 0 = 41 := Classical.byContradiction fun e => h1 (.inr (.inr e))
      obtain ⟨us, e1, e2, e3⟩ := rowP_sound _ _ [] vs (Nat.le_refl _) h
      rw [List.nil_append] at e1
      subst e1
      have hl : rowTextL vs = l := by
        unfold rowTextL
        rw [← e3]
        match l, g1, g2, g3 with
        | a :: m, g1, g2, g3 =>
          have ga : a = 40 := g2
          subst ga
          rcases List.eq_nil_or_concat m with rfl | ⟨m', b, rfl⟩
          · simp at g1
          · rw [List.concat_eq_append] at *
            have gb : b = 41 := by
              have : (40 :: (m' ++ [b])) = (40 :: m') ++ [b] := rfl
              rw [this, getLast_snoc] at g3
              exact g3
            subst gb
            simp
      refine ⟨hl, e2.2, ?_⟩
      have hb : vs.length ≤ (rowBody vs).length := by
        have key : ∀ us : List V, (∀ v ∈ us, v.valid = true) → us.length ≤ (rowBody us).length := by
          intro us
          induction us with
          | nil => intro _; simp
          | cons v us ih =>
            intro hv
            match us, ih with
            | [], _ =>
              have := List.length_pos_iff.2 (textL_ne (hv v (by simp)))
              rw [rowBody_one']; simp only [List.length_cons, List.length_nil]; omega
            | u :: us', ih =>
              have := ih fun x hx => hv x (by simp [hx])
              rw [rowBody_more]
              simp only [List.length_append, List.length_cons, List.length_nil] at *
              omega
        exact key vs fun v hv => (e2.2 v hv).1
      rw [← hl]
      unfold rowTextL
      simp only [List.length_cons, List.length_append, List.length_nil]
      omega
end Go.Proofs.YtkoajdbijlpgaaaDoor
