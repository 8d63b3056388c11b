/-
  PLAIN: in a query that Check accepts every negated atom has a guard.
-/
import Derived.Test.YtgeapgbebbapmaaChk3
namespace Go.Proofs.Ytgeapgbebbapmaa

theorem inferAll_len {S : List Sch} : ∀ {l : List Rul}, (inferAll S l).1 = 0 → (inferAll S l).2.length = l.length
  | [], _ => rfl
  | r :: l, h => by
    rw [inferAll] at h ⊢
    by_cases h1 : (inferT S [] r.atoms).1 = 0
    · rw [if_pos h1] at h ⊢
      by_cases h2 : (inferAll S l).1 = 0
      · rw [if_pos h2]
        simp only [List.length_cons]
        rw [inferAll_len h2]
      · rw [if_neg h2] at h
        exact absurd h h2
    · rw [if_neg h1] at h
      exact absurd h h1
theorem verifyAll_mem : ∀ {l : List Rul} {Es : List Env}, verifyAll l Es = 0 → Es.length = l.length → ∀ r ∈ l, ∃ E, verifyT r E = 0
  | [], _, _, _, r, hr => absurd hr (by simp)
  | r :: l, [], _, hl, _, _ => by simp at hl
  | r :: l, E :: Es, h, hl, x, hx => by
    rw [verifyAll] at h
    by_cases h0 : verifyT r E = 0
    · rw [if_pos h0] at h
      rcases List.mem_cons.1 hx with rfl | hx
      · exact ⟨E, h0⟩
      · exact verifyAll_mem h (by simpa using hl) x hx
    · rw [if_neg h0] at h
      exact absurd h h0
theorem verify_guard {r : Rul} {E : Env} (h : verifyT r E = 0) {i : Nat} (hi : i < r.atoms.length) (hn : r.atoms[i].neg = true) : (guardR r i).2 = 0 := by
  unfold verifyT at h
  have h1 : firstE (negE r.atoms) r.atoms = 0 := by
    by_cases h0 : firstE (condT E) r.conds = 0
    · rwa [if_pos h0] at h
    · rw [if_neg h0] at h
      exact absurd h h0
  have h2 := firstE_zero h1 _ (List.getElem_mem hi)
  unfold negE at h2
  rw [guardR_in hi rfl, if_neg (by simp [hn])]
  cases hg : guardG r.atoms r.atoms[i] with
  | some n => rfl
  | none => rw [hg] at h2; simp [hn] at h2
/-- The law. -/
theorem guarded_all {q : Qry} {S : List Sch} (h : (checkT q S).1 = 0) : ∀ r ∈ q.rules, ∀ i (hi : i < r.atoms.length), r.atoms[i].neg = true → (guardR r i).2 = 0 := by
  unfold checkT at h
  by_cases h0 : checkQ q = 0
  · rw [if_neg (by simpa using h0)] at h
    by_cases h1 : (inferAll S q.rules).1 = 0
    · rw [if_neg (by simpa using h1)] at h
      by_cases h2 : verifyAll q.rules (inferAll S q.rules).2 = 0
      · intro r hr i hi hn
        obtain ⟨E, hE⟩ := verifyAll_mem h2 (inferAll_len h1) r hr
        exact verify_guard hE hi hn
      · rw [if_pos h2] at h
        exact absurd h h2
    · rw [if_pos h1] at h
      exact absurd h h1
  · rw [if_pos h0] at h
    exact absurd h h0
end Go.Proofs.Ytgeapgbebbapmaa
