/-
  PLAIN: the check of queries, step by step: what each round of a loop asks.
-/
import Derived.Test.YtgeapgbebbapmaaDoorAst1
namespace Go.Proofs.YtgeapgbebbapmaaDoor

theorem firstE_end {α : Type} {f : α → Int} {l : List α} {k : Nat} (h : ¬ k < l.length) : firstE f (l.drop k) = 0 := by
  rw [List.drop_eq_nil_of_le (by omega)]; rfl
theorem firstE_on {α : Type} {f : α → Int} {l : List α} {k : Nat} (h : k < l.length) (h0 : f l[k] = 0) : firstE f (l.drop k) = firstE f (l.drop (k + 1)) := by
  rw [List.drop_eq_getElem_cons h, firstE, if_pos h0]
theorem firstE_at {α : Type} {f : α → Int} {l : List α} {k : Nat} (h : k < l.length) (h0 : f l[k] ≠ 0) : firstE f (l.drop k) = f l[k] := by
  rw [List.drop_eq_getElem_cons h, firstE, if_neg h0]
theorem headGo_end {l : List Str} {k : Nat} (h : ¬ k < l.length) : headGo (l.take k) (l.drop k) = 0 := by
  rw [List.drop_eq_nil_of_le (by omega)]; rfl
theorem headGo_on {l : List Str} {k : Nat} (h : k < l.length) (h1 : nameB l[k] = true) (h2 : l[k] ∉ l.take k) : headGo (l.take k) (l.drop k) = headGo (l.take (k + 1)) (l.drop (k + 1)) := by
  rw [List.drop_eq_getElem_cons h, headGo, if_neg (by rw [h1]; decide), if_neg h2, List.take_succ_eq_append_getElem h]
theorem headGo_name {l : List Str} {k : Nat} (h : k < l.length) (h1 : nameB l[k] = false) : headGo (l.take k) (l.drop k) = 7 := by
  rw [List.drop_eq_getElem_cons h, headGo, if_pos h1]
theorem headGo_twice {l : List Str} {k : Nat} (h : k < l.length) (h1 : nameB l[k] = true) (h2 : l[k] ∈ l.take k) : headGo (l.take k) (l.drop k) = 8 := by
  rw [List.drop_eq_getElem_cons h, headGo, if_neg (by rw [h1]; decide), if_pos h2]
/-- The keys' names so far. -/
def keysV (l : List Ky) : List Str := l.map (·.v)
theorem orderGo_end {hd : List Str} {l : List Ky} {k : Nat} (h : ¬ k < l.length) : orderGo hd (keysV (l.take k)) (l.drop k) = 0 := by
  rw [List.drop_eq_nil_of_le (by omega)]; rfl
theorem keysV_succ {l : List Ky} {k : Nat} (h : k < l.length) : keysV (l.take (k + 1)) = keysV (l.take k) ++ [l[k].v] := by
  unfold keysV
  rw [List.take_succ_eq_append_getElem h, List.map_append]; rfl
theorem orderGo_on {hd : List Str} {l : List Ky} {k : Nat} (h : k < l.length) (h1 : l[k].v ∈ hd) (h2 : l[k].v ∉ keysV (l.take k)) : orderGo hd (keysV (l.take k)) (l.drop k) = orderGo hd (keysV (l.take (k + 1))) (l.drop (k + 1)) := by
  rw [List.drop_eq_getElem_cons h, orderGo, if_pos h1, if_neg h2, keysV_succ h]
theorem orderGo_name {hd : List Str} {l : List Ky} {k : Nat} (h : k < l.length) (h1 : l[k].v ∉ hd) : orderGo hd (keysV (l.take k)) (l.drop k) = 7 := by
  rw [List.drop_eq_getElem_cons h, orderGo, if_neg h1]
theorem orderGo_twice {hd : List Str} {l : List Ky} {k : Nat} (h : k < l.length) (h1 : l[k].v ∈ hd) (h2 : l[k].v ∈ keysV (l.take k)) : orderGo hd (keysV (l.take k)) (l.drop k) = 8 := by
  rw [List.drop_eq_getElem_cons h, orderGo, if_pos h1, if_pos h2]

/-- Names gathered so far, without repetition, none of them empty. -/
theorem addN_in {acc : List Str} {v x : Str} : x ∈ addN acc v ↔ x ∈ acc ∨ (x = v ∧ v ≠ []) := by
  unfold addN
  by_cases h : v = [] ∨ v ∈ acc
  · rw [if_pos h]
    rcases h with rfl | h
    · simp
    · constructor
      · exact .inl
      · rintro (h1 | ⟨rfl, _⟩)
        · exact h1
        · exact h
  · rw [if_neg h]
    have h1 : v ≠ [] := fun e => h (.inl e)
    simp [h1]
theorem addNs_in : ∀ (l acc : List Str) (x : Str), x ∈ l.foldl addN acc ↔ x ∈ acc ∨ (x ∈ l ∧ x ≠ [])
  | [], acc, x => by simp
  | v :: l, acc, x => by
    rw [List.foldl_cons, addNs_in l (addN acc v) x, addN_in]
    constructor
    · rintro ((h | ⟨rfl, h⟩) | ⟨h1, h2⟩)
      · exact .inl h
      · exact .inr ⟨by simp, h⟩
      · exact .inr ⟨by simp [h1], h2⟩
    · rintro (h | ⟨h1, h2⟩)
      · exact .inl (.inl h)
      · rcases List.mem_cons.1 h1 with rfl | h1
        · exact .inl (.inr ⟨rfl, h2⟩)
        · exact .inr ⟨h1, h2⟩
theorem vars_in {r : Rul} {x : Str} : x ∈ varsL r ↔ x ∈ allVs r ∧ x ≠ [] := by
  unfold varsL
  rw [addNs_in]; simp
end Go.Proofs.YtgeapgbebbapmaaDoor
