/-
  REGIONS THAT DRAW THEIR ORDER, BY AN INVARIANT (the second): an operation may wait for a later one where that waiting does not bind; no condition.
-/
import Derived.Test.YtgeapgbebbapmaaDoorReg
namespace Go.Proofs.YtgeapgbebbapmaaDoor

section
variable {P : Program} {Q : Exit → Act → World → Prop}

def earlyB (l : List Oper) : Bool := (List.range l.length).all fun i => match l[i]? with
  | some o => o.after.all fun e => !Region.binds .any e || decide (e.on < i)
  | none => true

theorem earlyB_at {l : List Oper} (h : earlyB l = true) {i : Nat} {o : Oper} (ho : l[i]? = some o) : ∀ e ∈ o.after, Region.binds .any e = true → e.on < i := by
  intro e he hb
  have hi : i < l.length := (List.getElem?_eq_some_iff.1 ho).1
  have := List.all_eq_true.1 h i (List.mem_range.2 hi)
  simp only [ho] at this
  obtain ⟨k, hk, rfl⟩ := Array.mem_iff_getElem.1 he
  have := Array.all_eq_true.1 this k hk
  simpa [hb] using this

/-- Where an operation is left, one may come up: the least one. -/
theorem ready_of_leftB {l : List Oper} (h : earlyB l = true) {listed : Array Bool} (hs : listed.size = l.length) : ∀ i, i < l.length → listed.getD i true = false → ∃ j, j ∈ Region.ready .any l.toArray listed := by
  intro i
  induction i using Nat.strongRecOn with
  | ind i ih =>
    intro hi hf
    obtain ⟨o, ho⟩ : ∃ o, l[i]? = some o := ⟨_, List.getElem?_eq_getElem hi⟩
    by_cases hall : ∀ e ∈ o.after, Region.binds .any e = true → listed.getD e.on false = true
    · exact ⟨i, mem_ready.2 ⟨hf, o, by simpa using ho, hall⟩⟩
    · have hall := Classical.not_forall.1 hall
      obtain ⟨e, he⟩ := hall
      obtain ⟨he, hb⟩ := Classical.not_imp.1 he
      obtain ⟨hbb, hb⟩ := Classical.not_imp.1 hb
      have hlt := earlyB_at h ho e he hbb
      refine ih e.on hlt (by omega) ?_
      have hlt' : e.on < listed.size := by omega
      simpa [hlt'] using hb

theorem wpAny_invB {l : List Oper} (h : earlyB l = true) {I : (Nat → Bool) → Act → World → Prop} (hst : allSteps P l.toArray Q I l 0) (fin : ∀ d a w, I d a w → (∀ j, d j = true) → Q .normal a w) :
    ∀ (fuel : Nat) (listed : Array Bool) (a : Act) (w : World), listed.size = l.length → togo l.length listed ≤ fuel → I (fun j => listed.getD j true) a w → wpAny P .any l.toArray Q fuel listed a w := by
  have all_of : ∀ (listed : Array Bool), listed.size = l.length → Region.ready .any l.toArray listed = [] → ∀ j, listed.getD j true = true := by
    intro listed hs hr j
    cases hb : listed.getD j true with
    | true => rfl
    | false =>
      have hj : j < l.length := by
        rcases Nat.lt_or_ge j listed.size with h' | h'
        · omega
        · simp [Array.getElem?_eq_none h'] at hb
      obtain ⟨k, hk⟩ := ready_of_leftB h hs j hj hb
      rw [hr] at hk
      cases hk
  intro fuel
  induction fuel with
  | zero =>
    intro listed a w hs hf hI
    have hz : ∀ j, listed.getD j true = true := by
      intro j
      cases hb : listed.getD j true with
      | true => rfl
      | false =>
        have hj : j < l.length := by
          rcases Nat.lt_or_ge j listed.size with h' | h'
          · omega
          · simp [Array.getElem?_eq_none h'] at hb
        have : 0 < togo l.length listed := List.countP_pos_iff.2 ⟨j, List.mem_range.2 hj, by rw [hb]; rfl⟩
        omega
    refine ⟨?_, fin _ a w hI hz⟩
    cases hr : Region.ready .any l.toArray listed with
    | nil => rfl
    | cons x xs =>
      have : x ∈ Region.ready .any l.toArray listed := by rw [hr]; exact List.mem_cons_self ..
      have := (mem_ready.1 this).1
      rw [hz x] at this
      cases this
  | succ fuel ih =>
    intro listed a w hs hf hI
    refine ⟨fun hr => fin _ a w hI (all_of listed hs hr), fun i hi => ?_⟩
    obtain ⟨hun, o, ho, haft⟩ := mem_ready.1 hi
    have hlt : i < l.length := by simpa using (Array.getElem?_eq_some_iff.1 ho).1
    have ho' : l[i]? = some o := by simpa using ho
    have hs0 := allSteps_at hst ho' (fun j => listed.getD j true) a w hI (by simpa using hun) (fun e he hb => by
      have h1 := haft e he hb
      have h2 : e.on < listed.size := by have := earlyB_at h ho' e he hb; omega
      simp [h2] at h1 ⊢
      exact h1)
    rw [Nat.zero_add] at hs0
    refine wpOp_mono (fun a' w' hI' => ih _ a' w' (by simpa using hs) ?_ ?_) (wpOp_of_list ho hs0)
    · have : togo l.length (listed.setIfInBounds i true) < togo l.length listed := by
        refine countP_lt (i := i) (fun j hj hq => ?_) (List.mem_range.2 hlt) (by simpa using hun) (by rw [getD_upd (by omega)]; simp [upd])
        rw [getD_upd (by omega)] at hq
        unfold upd at hq
        by_cases hji : j = i
        · rw [if_pos hji] at hq; cases hq
        · rw [if_neg hji] at hq; exact hq
      omega
    · have : (fun j => (listed.setIfInBounds i true).getD j true) = upd (fun j => listed.getD j true) i := funext fun j => getD_upd (by omega) j
      rw [this]
      exact hI'

/-- A region that draws its order, by an invariant over what has come up: each operation once. -/
theorem wp_region_invB {l : List Oper} {id : Nat} {a : Act} {w : World} (I : (Nat → Bool) → Act → World → Prop) (hm : P.follows .mixedOrders = true) (h : earlyB l = true) (h0 : I (fun j => decide (l.length ≤ j)) a w.drew)
    (hst : allSteps P l.toArray Q I l 0) (fin : ∀ d a w, I d a w → (∀ j, d j = true) → Q .normal a w) : (Code.region id l.toArray true).wp P Q a w := by
  refine wp_region_any hm ?_
  refine wpAny_invB h hst fin _ _ _ _ (by simp) ?_ ?_
  · unfold togo
    refine Nat.le_trans List.countP_le_length (by simp)
  · have : (fun j => (Array.replicate l.toArray.size false).getD j true) = (fun j => decide (l.length ≤ j)) := by
      funext j
      by_cases hj : j < l.length <;> simp [hj] <;> omega
    rw [this]
    exact h0


/-- The same, and what an operation waits for has come up ahead of it. -/
theorem wp_region_inv3 {l : List Oper} {id : Nat} {a : Act} {w : World} (I : (Nat → Bool) → Act → World → Prop) (hm : P.follows .mixedOrders = true) (h : earlyB l = true) (h0 : I (fun j => decide (l.length ≤ j)) a w.drew)
    (hst : allSteps2 P l Q I l 0) (fin : ∀ d a w, I d a w → (∀ j, d j = true) → Q .normal a w) : (Code.region id l.toArray true).wp P Q a w := by
  refine wp_region_invB (fun d a w => I d a w ∧ closedB l d) hm h ⟨h0, ?_⟩ (allSteps_of (fun i o hi => by simpa using hi) hst) (fun d a w hI hd => fin d a w hI.1 hd)
  intro i o hi hd e he hb
  have := (List.getElem?_eq_some_iff.1 hi).1
  simp at hd
  omega

end
end Go.Proofs.YtgeapgbebbapmaaDoor
