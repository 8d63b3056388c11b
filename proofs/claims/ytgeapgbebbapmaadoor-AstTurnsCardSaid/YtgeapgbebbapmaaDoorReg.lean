/-
  REGIONS THAT DRAW THEIR ORDER, BY AN INVARIANT: each operation is met once, whatever the order; no condition.
-/
import Derived.Orders
import Derived.Tactics
import Derived.RegionTactic
namespace Go.Proofs.YtgeapgbebbapmaaDoor

section
variable {P : Program} {Q : Exit → Act → World → Prop}

/-- The post of one operation: what K says where it ends as it should. -/
def thenK (Q : Exit → Act → World → Prop) (K : Act → World → Prop) : Exit → Act → World → Prop
  | .normal, a, w => K a w
  | e, a, w => Q e a w

theorem letsOut_thenK {K : Act → World → Prop} (h : LetsOut (thenK Q K)) : LetsOut Q := h

theorem opwp_thenK {K : Act → World → Prop} {o : Oper} {a : Act} {w : World} (h : o.wp P a w K (thenK Q K)) : o.wp P a w K Q := by
  unfold Oper.wp at *
  generalize (execOp a.eval o).run P w = r at *
  cases r with
  | ok n w' =>
    cases n <;> simp only [Oper.upon] at h ⊢ <;> first | exact h | skip
  | halt x w' => cases x <;> simp only [Oper.upon] at h ⊢ <;> exact h

theorem wpOp_of_list {ops : Array Oper} {K : Act → World → Prop} {i : Nat} {o : Oper} (hi : ops[i]? = some o) {a : Act} {w : World} (h : wpList P ops (thenK Q K) [o] a w) : wpOp P ops Q i K a w := by
  unfold wpOp
  simp only [hi]
  unfold wpList at h
  split
  · rename_i hw
    rw [if_pos hw] at h
    exact h.imp opwp_thenK id
  · rename_i hw
    rw [if_neg hw] at h
    exact h

/-- What has come up, behind operation i. -/
def upd (d : Nat → Bool) (i : Nat) : Nat → Bool := fun j => if j = i then true else d j

/-- Each operation of the list, from number k on, takes the invariant on. -/
def allSteps (P : Program) (ops : Array Oper) (Q : Exit → Act → World → Prop) (I : (Nat → Bool) → Act → World → Prop) : List Oper → Nat → Prop
  | [], _ => True
  | o :: rest, k => (∀ d a w, I d a w → d k = false → (∀ e ∈ o.after, Region.binds .any e = true → d e.on = true) → wpList P ops (thenK Q (I (upd d k))) [o] a w) ∧ allSteps P ops Q I rest (k + 1)

theorem allSteps_at {ops : Array Oper} {I : (Nat → Bool) → Act → World → Prop} : ∀ {l : List Oper} {k : Nat}, allSteps P ops Q I l k → ∀ {i : Nat} {o : Oper}, l[i]? = some o → ∀ d a w, I d a w → d (k + i) = false → (∀ e ∈ o.after, Region.binds .any e = true → d e.on = true) → wpList P ops (thenK Q (I (upd d (k + i)))) [o] a w := by
  intro l
  induction l with
  | nil => intro k _ i o h; simp at h
  | cons x l ih =>
    intro k h i o hi
    cases i with
    | zero =>
      obtain rfl : x = o := by simpa using hi
      exact h.1
    | succ i =>
      have := ih h.2 (i := i) (o := o) (by simpa using hi)
      intro d a w
      have := this d a w
      rw [show k + 1 + i = k + (i + 1) by omega] at this
      exact this

def early (l : List Oper) : Bool := (List.range l.length).all fun i => match l[i]? with
  | some o => o.after.all fun e => decide (e.on < i)
  | none => true

theorem getD_upd {listed : Array Bool} {i : Nat} (hi : i < listed.size) (j : Nat) : (listed.setIfInBounds i true).getD j true = upd (fun j => listed.getD j true) i j := by
  unfold upd
  by_cases h : j = i
  · subst h; simp [hi]
  · rw [if_neg h, getD_set_ne true (Ne.symm h)]

theorem countP_le {p q : Nat → Bool} : ∀ {l : List Nat}, (∀ j ∈ l, q j = true → p j = true) → l.countP q ≤ l.countP p
  | [], _ => by simp
  | x :: l, h => by
    have ih := countP_le (l := l) fun j hj => h j (List.mem_cons_of_mem _ hj)
    have hx := h x (List.mem_cons_self ..)
    simp only [List.countP_cons]
    cases hq : q x <;> cases hp : p x <;> simp_all <;> omega
theorem countP_lt {p q : Nat → Bool} {i : Nat} : ∀ {l : List Nat}, (∀ j ∈ l, q j = true → p j = true) → i ∈ l → p i = true → q i = false → l.countP q < l.countP p
  | [], _, hi, _, _ => by cases hi
  | x :: l, h, hi, h1, h2 => by
    have hle := countP_le (l := l) fun j hj => h j (List.mem_cons_of_mem _ hj)
    have hx := h x (List.mem_cons_self ..)
    simp only [List.countP_cons]
    rcases List.mem_cons.1 hi with rfl | hi
    · simp [h1, h2]; omega
    · have ih := countP_lt (l := l) (fun j hj => h j (List.mem_cons_of_mem _ hj)) hi h1 h2
      cases hq : q x <;> cases hp : p x <;> simp_all <;> omega

def togo (n : Nat) (listed : Array Bool) : Nat := (List.range n).countP fun j => !listed.getD j true

theorem early_at {l : List Oper} (h : early l = true) {i : Nat} {o : Oper} (ho : l[i]? = some o) : ∀ e ∈ o.after, e.on < i := by
  intro e he
  have hi : i < l.length := (List.getElem?_eq_some_iff.1 ho).1
  have := List.all_eq_true.1 h i (List.mem_range.2 hi)
  simp only [ho] at this
  obtain ⟨k, hk, rfl⟩ := Array.mem_iff_getElem.1 he
  have := Array.all_eq_true.1 this k hk
  simpa using this

/-- Where an operation is left, one may come up: the least one. -/
theorem ready_of_left {l : List Oper} (h : early l = true) {listed : Array Bool} (hs : listed.size = l.length) : ∀ i, i < l.length → listed.getD i true = false → ∃ j, j ∈ Region.ready .any l.toArray listed := by
  intro i
  induction i using Nat.strongRecOn with
  | ind i ih =>
    intro hi hf
    obtain ⟨o, ho⟩ : ∃ o, l[i]? = some o := ⟨_, List.getElem?_eq_getElem hi⟩
    by_cases hall : ∀ e ∈ o.after, Region.binds .any e = true → listed.getD e.on false = true
    · exact ⟨i, mem_ready.2 ⟨hf, o, by simpa using ho, hall⟩⟩
    · have hall := Classical.not_forall.1 hall
      obtain ⟨e, he⟩ := hall
      obtain ⟨he, hb⟩ := Classical.not_imp.1 he
      obtain ⟨_, hb⟩ := Classical.not_imp.1 hb
      have hlt := early_at h ho e he
      refine ih e.on hlt (by omega) ?_
      have hlt' : e.on < listed.size := by omega
      simpa [hlt'] using hb

theorem wpAny_inv {l : List Oper} (h : early l = true) {I : (Nat → Bool) → Act → World → Prop} (hst : allSteps P l.toArray Q I l 0) (fin : ∀ d a w, I d a w → (∀ j, d j = true) → Q .normal a w) :
    ∀ (fuel : Nat) (listed : Array Bool) (a : Act) (w : World), listed.size = l.length → togo l.length listed ≤ fuel → I (fun j => listed.getD j true) a w → wpAny P .any l.toArray Q fuel listed a w := by
  have all_of : ∀ (listed : Array Bool), listed.size = l.length → Region.ready .any l.toArray listed = [] → ∀ j, listed.getD j true = true := by
    intro listed hs hr j
    cases hb : listed.getD j true with
    | true => rfl
    | false =>
      have hj : j < l.length := by
        rcases Nat.lt_or_ge j listed.size with h' | h'
        · omega
        · simp [Array.getElem?_eq_none h'] at hb
      obtain ⟨k, hk⟩ := ready_of_left h hs j hj hb
      rw [hr] at hk
      cases hk
  intro fuel
  induction fuel with
  | zero =>
    intro listed a w hs hf hI
    have hz : ∀ j, listed.getD j true = true := by
      intro j
      cases hb : listed.getD j true with
      | true => rfl
      | false =>
        have hj : j < l.length := by
          rcases Nat.lt_or_ge j listed.size with h' | h'
          · omega
          · simp [Array.getElem?_eq_none h'] at hb
        have : 0 < togo l.length listed := List.countP_pos_iff.2 ⟨j, List.mem_range.2 hj, by rw [hb]; rfl⟩
        omega
    refine ⟨?_, fin _ a w hI hz⟩
    cases hr : Region.ready .any l.toArray listed with
    | nil => rfl
    | cons x xs =>
      have : x ∈ Region.ready .any l.toArray listed := by rw [hr]; exact List.mem_cons_self ..
      have := (mem_ready.1 this).1
      rw [hz x] at this
      cases this
  | succ fuel ih =>
    intro listed a w hs hf hI
    refine ⟨fun hr => fin _ a w hI (all_of listed hs hr), fun i hi => ?_⟩
    obtain ⟨hun, o, ho, haft⟩ := mem_ready.1 hi
    have hlt : i < l.length := by simpa using (Array.getElem?_eq_some_iff.1 ho).1
    have ho' : l[i]? = some o := by simpa using ho
    have hs0 := allSteps_at hst ho' (fun j => listed.getD j true) a w hI (by simpa using hun) (fun e he hb => by
      have h1 := haft e he hb
      have h2 : e.on < listed.size := by have := early_at h ho' e he; omega
      simp [h2] at h1 ⊢
      exact h1)
    rw [Nat.zero_add] at hs0
    refine wpOp_mono (fun a' w' hI' => ih _ a' w' (by simpa using hs) ?_ ?_) (wpOp_of_list ho hs0)
    · have : togo l.length (listed.setIfInBounds i true) < togo l.length listed := by
        refine countP_lt (i := i) (fun j hj hq => ?_) (List.mem_range.2 hlt) (by simpa using hun) (by rw [getD_upd (by omega)]; simp [upd])
        rw [getD_upd (by omega)] at hq
        unfold upd at hq
        by_cases hji : j = i
        · rw [if_pos hji] at hq; cases hq
        · rw [if_neg hji] at hq; exact hq
      omega
    · have : (fun j => (listed.setIfInBounds i true).getD j true) = upd (fun j => listed.getD j true) i := funext fun j => getD_upd (by omega) j
      rw [this]
      exact hI'

/-- A region that draws its order, by an invariant over what has come up: each operation once. -/
theorem wp_region_inv {l : List Oper} {id : Nat} {a : Act} {w : World} (I : (Nat → Bool) → Act → World → Prop) (hm : P.follows .mixedOrders = true) (h : early l = true) (h0 : I (fun j => decide (l.length ≤ j)) a w.drew)
    (hst : allSteps P l.toArray Q I l 0) (fin : ∀ d a w, I d a w → (∀ j, d j = true) → Q .normal a w) : (Code.region id l.toArray true).wp P Q a w := by
  refine wp_region_any hm ?_
  refine wpAny_inv h hst fin _ _ _ _ (by simp) ?_ ?_
  · unfold togo
    refine Nat.le_trans List.countP_le_length (by simp)
  · have : (fun j => (Array.replicate l.toArray.size false).getD j true) = (fun j => decide (l.length ≤ j)) := by
      funext j
      by_cases hj : j < l.length <;> simp [hj] <;> omega
    rw [this]
    exact h0


/-- What has come up came up behind what it waits for. -/
def closedB (l : List Oper) (d : Nat → Bool) : Prop := ∀ i o, l[i]? = some o → d i = true → ∀ e ∈ o.after, Region.binds .any e = true → d e.on = true
/-- As allSteps, with that. -/
def allSteps2 (P : Program) (l0 : List Oper) (Q : Exit → Act → World → Prop) (I : (Nat → Bool) → Act → World → Prop) : List Oper → Nat → Prop
  | [], _ => True
  | o :: rest, k => (∀ d a w, I d a w → closedB l0 d → d k = false → (∀ e ∈ o.after, Region.binds .any e = true → d e.on = true) → wpList P l0.toArray (thenK Q (I (upd d k))) [o] a w) ∧ allSteps2 P l0 Q I rest (k + 1)
theorem wpOne_mono {ops : Array Oper} {K K' : Act → World → Prop} {o : Oper} {a : Act} {w : World} (h : ∀ a w, K a w → K' a w) (hh : wpList P ops (thenK Q K) [o] a w) : wpList P ops (thenK Q K') [o] a w := by
  have hop : o.wp P a w (wpList P ops (thenK Q K) []) (thenK Q K) → o.wp P a w (wpList P ops (thenK Q K') []) (thenK Q K') := by
    intro h1
    have h2 : o.wp P a w K Q := opwp_thenK (Oper.wp_mono (fun a w h => h) h1)
    have h3 : o.wp P a w K' Q := Oper.wp_mono h h2
    unfold Oper.wp at *
    generalize (execOp a.eval o).run P w = r at *
    cases r with
    | ok n w' =>
      cases n <;> simp only [Oper.upon] at h3 ⊢ <;> first | exact h3 | skip
    | halt x w' => cases x <;> simp only [Oper.upon] at h3 ⊢ <;> exact h3
  unfold wpList at hh ⊢
  split
  · rename_i hw
    rw [if_pos hw] at hh
    exact hh.imp hop id
  · rename_i hw
    rw [if_neg hw] at hh
    exact h _ _ hh
theorem allSteps_of {l0 : List Oper} {I : (Nat → Bool) → Act → World → Prop} : ∀ {l : List Oper} {k : Nat}, (∀ i o, l[i]? = some o → l0[k + i]? = some o) → allSteps2 P l0 Q I l k → allSteps P l0.toArray Q (fun d a w => I d a w ∧ closedB l0 d) l k
  | [], _, _, _ => trivial
  | o :: l, k, hl, h => by
    refine ⟨fun d a w ⟨hI, hc⟩ hk haft => ?_, allSteps_of (fun i x hx => by have := hl (i + 1) x (by simpa using hx); rwa [show k + (i + 1) = k + 1 + i by omega] at this) h.2⟩
    have ho : l0[k]? = some o := by have := hl 0 o rfl; simpa using this
    refine wpOne_mono (fun a' w' hI' => ⟨hI', ?_⟩) (h.1 d a w hI hc hk haft)
    intro i x hx hd e he hb
    unfold upd at hd ⊢
    by_cases hek : e.on = k
    · rw [if_pos hek]
    · rw [if_neg hek]
      by_cases hik : i = k
      · subst hik
        rw [ho] at hx
        injection hx with hx
        subst hx
        exact haft e he hb
      · rw [if_neg hik] at hd
        exact hc i x hx hd e he hb
/-- The same, and what an operation waits for has come up ahead of it. -/
theorem wp_region_inv2 {l : List Oper} {id : Nat} {a : Act} {w : World} (I : (Nat → Bool) → Act → World → Prop) (hm : P.follows .mixedOrders = true) (h : early l = true) (h0 : I (fun j => decide (l.length ≤ j)) a w.drew)
    (hst : allSteps2 P l Q I l 0) (fin : ∀ d a w, I d a w → (∀ j, d j = true) → Q .normal a w) : (Code.region id l.toArray true).wp P Q a w := by
  refine wp_region_inv (fun d a w => I d a w ∧ closedB l d) hm h ⟨h0, ?_⟩ (allSteps_of (fun i o hi => by simpa using hi) hst) (fun d a w hI hd => fin d a w hI.1 hd)
  intro i o hi hd e he hb
  have := (List.getElem?_eq_some_iff.1 hi).1
  simp at hd
  omega

end
end Go.Proofs.YtgeapgbebbapmaaDoor
