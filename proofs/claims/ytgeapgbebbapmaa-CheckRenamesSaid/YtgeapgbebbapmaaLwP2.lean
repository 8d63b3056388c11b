/-
  PLAIN: a query whose rules' atoms stand in another order is checked alike. For the law CheckTurns.
-/
import Derived.Test.YtgeapgbebbapmaaLwP
namespace Go.Proofs.Ytgeapgbebbapmaa

/-- The same rule, its atoms in another order. -/
structure Turned (r t : Rul) : Prop where
  c : t.conds = r.conds
  len : t.atoms.length = r.atoms.length
  mem : ∀ a, a ∈ r.atoms ↔ a ∈ t.atoms

theorem nodup_le {α : Type} [BEq α] [LawfulBEq α] : ∀ {l m : List α}, l.Nodup → (∀ x ∈ l, x ∈ m) → l.length ≤ m.length
  | [], _, _, _ => by simp
  | x :: l, m, hl, h => by
    rw [List.nodup_cons] at hl
    have hx := h x (List.mem_cons_self ..)
    have h1 := nodup_le (l := l) (m := m.erase x) hl.2 fun y hy => by
      have hne : y ≠ x := fun e => hl.1 (e ▸ hy)
      exact (List.mem_erase_of_ne hne).2 (h y (List.mem_cons_of_mem _ hy))
    rw [List.length_erase_of_mem hx] at h1
    have := List.length_pos_of_mem hx
    simp only [List.length_cons]; omega
theorem varsL_nodup (r : Rul) : (varsL r).Nodup := addNs_nodup (by simp)
theorem turned_vars {r t : Rul} (h : Turned r t) (x : Str) : x ∈ varsL t ↔ x ∈ varsL r := by
  rw [vars_in, vars_in]
  unfold allVs
  rw [h.c]
  simp only [List.mem_append, List.mem_flatMap]
  constructor
  · rintro ⟨⟨a, ha, hx⟩ | hx, hn⟩
    · exact ⟨.inl ⟨a, (h.mem a).2 ha, hx⟩, hn⟩
    · exact ⟨.inr hx, hn⟩
  · rintro ⟨⟨a, ha, hx⟩ | hx, hn⟩
    · exact ⟨.inl ⟨a, (h.mem a).1 ha, hx⟩, hn⟩
    · exact ⟨.inr hx, hn⟩
theorem turned_len {r t : Rul} (h : Turned r t) : (varsL t).length = (varsL r).length :=
  Nat.le_antisymm (nodup_le (varsL_nodup t) fun x hx => (turned_vars h x).1 hx) (nodup_le (varsL_nodup r) fun x hx => (turned_vars h x).2 hx)
theorem turned_bound {r t : Rul} (h : Turned r t) (v : Str) : boundB t v = boundB r v := by
  unfold boundB
  rw [Bool.eq_iff_iff, List.any_eq_true, List.any_eq_true]
  exact ⟨fun ⟨a, ha, h1⟩ => ⟨a, (h.mem a).2 ha, h1⟩, fun ⟨a, ha, h1⟩ => ⟨a, (h.mem a).1 ha, h1⟩⟩
theorem turned_items {r t : Rul} (h : Turned r t) : itemsE t = 0 ↔ itemsE r = 0 := by
  have key : ∀ r : Rul, itemsE r = 0 ↔ 0 < r.atoms.length ∧ r.atoms.length ≤ 8 ∧ r.conds.length ≤ 8 ∧ (∀ a ∈ r.atoms, atomE a = 0) ∧ ∀ c ∈ r.conds, condE c = 0 := by
    intro r
    unfold itemsE
    by_cases h0 : r.atoms = []
    · rw [if_pos h0]; simp [h0]
    · have hp := List.length_pos_iff.2 h0
      rw [if_neg h0]
      by_cases h1 : 8 < r.atoms.length ∨ 8 < r.conds.length
      · rw [if_pos h1]
        exact ⟨fun h => absurd h (by decide), fun h => by omega⟩
      · rw [if_neg h1]
        by_cases h2 : firstE atomE r.atoms = 0
        · rw [if_pos h2, firstE_zero_iff]
          exact ⟨fun h => ⟨hp, by omega, by omega, firstE_zero_iff.1 h2, h⟩, fun h => h.2.2.2.2⟩
        · rw [if_neg h2]
          exact ⟨fun h => absurd h h2, fun h => absurd (firstE_zero_iff.2 h.2.2.2.1) h2⟩
  rw [key, key, h.c, h.len]
  have : (∀ a ∈ t.atoms, atomE a = 0) ↔ ∀ a ∈ r.atoms, atomE a = 0 := ⟨fun g a ha => g a ((h.mem a).1 ha), fun g a ha => g a ((h.mem a).2 ha)⟩
  rw [this]
theorem turned_rule {q : Qry} {r t : Rul} (h : Turned r t) : ruleE q t = 0 ↔ ruleE q r = 0 := by
  unfold ruleE
  rw [turned_len h]
  have hall : (needL q ++ varsL t).all (boundB t) = (needL q ++ varsL r).all (boundB r) := by
    rw [Bool.eq_iff_iff, List.all_eq_true, List.all_eq_true]
    constructor
    · intro g x hx
      rw [← turned_bound h]
      refine g x ?_
      rcases List.mem_append.1 hx with hx | hx
      · exact List.mem_append_left _ hx
      · exact List.mem_append_right _ ((turned_vars h x).2 hx)
    · intro g x hx
      rw [turned_bound h]
      refine g x ?_
      rcases List.mem_append.1 hx with hx | hx
      · exact List.mem_append_left _ hx
      · exact List.mem_append_right _ ((turned_vars h x).1 hx)
  rw [hall]
  by_cases h0 : itemsE r = 0
  · rw [if_pos h0, if_pos ((turned_items h).2 h0)]
  · rw [if_neg h0, if_neg (fun g => h0 ((turned_items h).1 g))]
    exact ⟨fun g => absurd ((turned_items h).1 g) h0, fun g => absurd g h0⟩

/-- Rules turned one by one. -/
def TurnedL (l m : List Rul) : Prop := m.length = l.length ∧ ∀ i (h : i < l.length) (h' : i < m.length), Turned l[i] m[i]
theorem TurnedL.firstE {q : Qry} {l m : List Rul} (h : TurnedL l m) : firstE (ruleE q) m = 0 ↔ firstE (ruleE q) l = 0 := by
  rw [firstE_zero_iff, firstE_zero_iff]
  constructor
  · intro g x hx
    obtain ⟨i, hi, rfl⟩ := List.getElem_of_mem hx
    exact (turned_rule (h.2 i hi (by rw [h.1]; exact hi))).1 (g _ (List.getElem_mem _))
  · intro g x hx
    obtain ⟨i, hi, rfl⟩ := List.getElem_of_mem hx
    exact (turned_rule (h.2 i (by rw [← h.1]; exact hi) hi)).2 (g _ (List.getElem_mem _))
def turnQ (q : Qry) (m : List Rul) : Qry := { q with rules := m }
theorem checkQ_iff {q : Qry} : checkQ q = 0 ↔ q.rules ≠ [] ∧ ¬ (3 < q.rules.length ∨ (1 < q.rules.length ∧ q.agg ≠ 0)) ∧ headE q.head = 0 ∧ aggE q = 0 ∧ firstE (ruleE q) q.rules = 0 ∧ orderE q = 0 := by
  unfold checkQ
  by_cases h0 : q.rules = []
  · rw [if_pos h0]; exact ⟨fun h => absurd h (by decide), fun h => absurd h0 h.1⟩
  rw [if_neg h0]
  by_cases h1 : 3 < q.rules.length ∨ (1 < q.rules.length ∧ q.agg ≠ 0)
  · rw [if_pos h1]; exact ⟨fun h => absurd h (by decide), fun h => absurd h1 h.2.1⟩
  rw [if_neg h1]
  by_cases h2 : headE q.head = 0
  · rw [if_neg (by simpa using h2)]
    by_cases h3 : aggE q = 0
    · rw [if_neg (by simpa using h3)]
      by_cases h4 : firstE (ruleE q) q.rules = 0
      · rw [if_neg (by simpa using h4)]
        exact ⟨fun h => ⟨h0, h1, h2, h3, h4, h⟩, fun h => h.2.2.2.2.2⟩
      · rw [if_pos h4]; exact ⟨fun h => absurd h h4, fun h => absurd h.2.2.2.2.1 h4⟩
    · rw [if_pos h3]; exact ⟨fun h => absurd h h3, fun h => absurd h.2.2.2.1 h3⟩
  · rw [if_pos h2]; exact ⟨fun h => absurd h h2, fun h => absurd h.2.2.1 h2⟩
theorem checkQ_turn {q : Qry} {m : List Rul} (h : TurnedL q.rules m) : checkQ (turnQ q m) = 0 ↔ checkQ q = 0 := by
  rw [checkQ_iff, checkQ_iff]
  have e1 : (turnQ q m).rules ≠ [] ↔ q.rules ≠ [] := by
    show m ≠ [] ↔ _
    rw [← List.length_pos_iff, ← List.length_pos_iff, h.1]
  have e2 : (turnQ q m).rules.length = q.rules.length := h.1
  have e3 : firstE (ruleE (turnQ q m)) (turnQ q m).rules = 0 ↔ firstE (ruleE q) q.rules = 0 := h.firstE (q := q)
  rw [e1, e2, e3]
  exact Iff.rfl
theorem inferAll_iff {S : List Sch} : ∀ {l : List Rul}, (inferAll S l).1 = 0 ↔ ∀ r ∈ l, (inferT S [] r.atoms).1 = 0
  | [] => by simp [inferAll]
  | r :: l => by
    rw [inferAll]
    by_cases h1 : (inferT S [] r.atoms).1 = 0
    · rw [if_pos h1]
      by_cases h2 : (inferAll S l).1 = 0
      · rw [if_pos h2]
        refine ⟨fun _ x hx => ?_, fun _ => rfl⟩
        rcases List.mem_cons.1 hx with rfl | hx
        · exact h1
        · exact inferAll_iff.1 h2 x hx
      · rw [if_neg h2]
        constructor
        · intro h; exact absurd h h2
        · intro h; exact absurd (inferAll_iff.2 fun x hx => h x (List.mem_cons_of_mem _ hx)) h2
    · rw [if_neg h1]; simp [h1]
theorem verifyAll_iff {f : Rul → Env} : ∀ {l : List Rul}, verifyAll l (l.map f) = 0 ↔ ∀ r ∈ l, verifyT r (f r) = 0
  | [] => by simp [verifyAll]
  | r :: l => by
    rw [List.map_cons, verifyAll]
    by_cases h : verifyT r (f r) = 0
    · rw [if_pos h, verifyAll_iff]; simp [h]
    · rw [if_neg h]; simp [h]
/-- The kinds of a rule's variables. -/
def envR (S : List Sch) (r : Rul) : Env := (inferT S [] r.atoms).2
theorem turned_infer {S : List Sch} {r t : Rul} (h : Turned r t) : ((inferT S [] t.atoms).1 = 0 ↔ (inferT S [] r.atoms).1 = 0) ∧ ((inferT S [] r.atoms).1 = 0 → getE (envR S t) = getE (envR S r)) :=
  ⟨⟨fun g => (inferT_perm (fun a => (h.mem a).symm) g).1, fun g => (inferT_perm h.mem g).1⟩, fun g => (inferT_perm h.mem g).2⟩
theorem turned_verify {S : List Sch} {r t : Rul} (h : Turned r t) (g : (inferT S [] r.atoms).1 = 0) : verifyT t (envR S t) = 0 ↔ verifyT r (envR S r) = 0 := by
  have he := (turned_infer (S := S) h).2 g
  obtain ⟨ta, tc⟩ := t
  obtain ⟨ra, rc⟩ := r
  have hc : tc = rc := h.c
  subst hc
  exact verifyT_perm h.mem he

/-- When Check accepts, and what it tells then. -/
theorem checkT_iff {q : Qry} {S : List Sch} : (checkT q S).1 = 0 ↔ checkQ q = 0 ∧ (∀ r ∈ q.rules, (inferT S [] r.atoms).1 = 0) ∧ (∀ r ∈ q.rules, verifyT r (envR S r) = 0) ∧ headT q (q.rules.map (envR S)) = true ∧ ¬ (q.agg = 2 ∧ kindE ((q.rules.map (envR S)).headD []) q.aggVar ≠ 1) := by
  unfold checkT
  by_cases h0 : checkQ q = 0
  · rw [if_neg (by simpa using h0)]
    by_cases h1 : (inferAll S q.rules).1 = 0
    · have e := (inferAll_each h1).2
      rw [if_neg (by simpa using h1), e]
      have ev : (verifyAll q.rules (q.rules.map fun r => (inferT S [] r.atoms).2) = 0) ↔ ∀ r ∈ q.rules, verifyT r (envR S r) = 0 := verifyAll_iff (f := envR S)
      by_cases h2 : verifyAll q.rules (q.rules.map fun r => (inferT S [] r.atoms).2) = 0
      · rw [if_neg (by simpa using h2)]
        by_cases h3 : headT q (q.rules.map fun r => (inferT S [] r.atoms).2) = true
        · rw [if_neg (by rw [h3]; decide)]
          by_cases h4 : q.agg = 2 ∧ kindE ((q.rules.map fun r => (inferT S [] r.atoms).2).headD []) q.aggVar ≠ 1
          · rw [if_pos h4]
            exact ⟨fun h => absurd h (by decide), fun h => absurd h4 h.2.2.2.2⟩
          · rw [if_neg h4]
            exact ⟨fun _ => ⟨h0, inferAll_iff.1 h1, ev.1 h2, h3, h4⟩, fun _ => rfl⟩
        · rw [if_pos (by simpa using h3)]
          exact ⟨fun h => absurd h (by decide), fun h => absurd h.2.2.2.1 h3⟩
      · rw [if_pos h2]
        exact ⟨fun h => absurd h h2, fun h => absurd (ev.2 h.2.2.1) h2⟩
    · rw [if_pos h1]
      exact ⟨fun h => absurd h h1, fun h => absurd (inferAll_iff.2 h.2.1) h1⟩
  · rw [if_pos h0]
    exact ⟨fun h => absurd h h0, fun h => absurd h.1 h0⟩
theorem checkT_bad {q : Qry} {S : List Sch} (h : (checkT q S).1 ≠ 0) : (checkT q S).2 = ⟨[], []⟩ := by
  unfold checkT at h ⊢
  repeat' split
  all_goals first | rfl | skip
  rename_i h1 h2 h3 h4 h5
  rw [if_neg h1, if_neg h2, if_neg h3, if_neg h4, if_neg h5] at h
  exact absurd rfl h
theorem checkT_good {q : Qry} {S : List Sch} (h : (checkT q S).1 = 0) : checkT q S = (0, typesOf q (q.rules.map (envR S))) := by
  obtain ⟨h0, h1, h2, h3, h4⟩ := checkT_iff.1 h
  have i1 : (inferAll S q.rules).1 = 0 := inferAll_iff.2 h1
  have e : (inferAll S q.rules).2 = q.rules.map (envR S) := (inferAll_each i1).2
  unfold checkT
  rw [if_neg (by simpa using h0), if_neg (by simpa using i1), e, if_neg (by simpa using (verifyAll_iff (f := envR S)).2 h2), if_neg (by rw [h3]; decide), if_neg h4]
theorem turned_heads {S : List Sch} {l m : List Rul} (h : TurnedL l m) (g : ∀ r ∈ l, (inferT S [] r.atoms).1 = 0) (v : Str) : kindE ((m.map (envR S)).headD []) v = kindE ((l.map (envR S)).headD []) v := by
  match l, m, h with
  | [], [], _ => rfl
  | r :: l, t :: m, h =>
    have ht := h.2 0 (by simp) (by simp)
    have := (turned_infer (S := S) ht).2 (g r (List.mem_cons_self ..))
    show kindE (envR S t) v = kindE (envR S r) v
    unfold kindE
    rw [show getE (envR S t) = getE (envR S r) from this]
  | [], _ :: _, h => exact absurd h.1 (by simp)
  | _ :: _, [], h => exact absurd h.1 (by simp)
/-- The law. -/
theorem checkT_turn {q : Qry} {m : List Rul} {S : List Sch} (h : TurnedL q.rules m) :
    ((checkT (turnQ q m) S).1 = 0 ↔ (checkT q S).1 = 0) ∧ (checkT (turnQ q m) S).2.head = (checkT q S).2.head ∧ (checkT (turnQ q m) S).2.rules.length = (checkT q S).2.rules.length ∧
    ∀ i (h1 : i < (checkT q S).2.rules.length) (h2 : i < (checkT (turnQ q m) S).2.rules.length), (checkT (turnQ q m) S).2.rules[i].length = (checkT q S).2.rules[i].length ∧ ((checkT q S).2.rules[i].map (·.1)).Nodup ∧ ∀ p ∈ (checkT (turnQ q m) S).2.rules[i], p ∈ (checkT q S).2.rules[i] := by
  have hinf : (∀ r ∈ (turnQ q m).rules, (inferT S [] r.atoms).1 = 0) ↔ ∀ r ∈ q.rules, (inferT S [] r.atoms).1 = 0 := by
    constructor
    · intro g r hr
      obtain ⟨i, hi, rfl⟩ := List.getElem_of_mem hr
      exact (turned_infer (h.2 i hi (by rw [h.1]; exact hi))).1.1 (g _ (List.getElem_mem _))
    · intro g r hr
      obtain ⟨i, hi, rfl⟩ := List.getElem_of_mem hr
      have hi' : i < m.length := hi
      exact (turned_infer (h.2 i (by rw [← h.1]; exact hi') hi')).1.2 (g _ (List.getElem_mem _))
  have hiff : (checkT (turnQ q m) S).1 = 0 ↔ (checkT q S).1 = 0 := by
    rw [checkT_iff, checkT_iff, checkQ_turn h, hinf]
    refine and_congr_right fun _ => and_congr_right fun g => ?_
    have hk := turned_heads h g
    have hv : (∀ r ∈ (turnQ q m).rules, verifyT r (envR S r) = 0) ↔ ∀ r ∈ q.rules, verifyT r (envR S r) = 0 := by
      constructor
      · intro f r hr
        obtain ⟨i, hi, rfl⟩ := List.getElem_of_mem hr
        exact (turned_verify (h.2 i hi (by rw [h.1]; exact hi)) (g _ (List.getElem_mem _))).1 (f _ (List.getElem_mem _))
      · intro f r hr
        obtain ⟨i, hi, rfl⟩ := List.getElem_of_mem hr
        have hi' : i < m.length := hi
        exact (turned_verify (h.2 i (by rw [← h.1]; exact hi') hi') (g _ (List.getElem_mem _))).2 (f _ (List.getElem_mem _))
    have hh : headT (turnQ q m) ((turnQ q m).rules.map (envR S)) = true ↔ headT q (q.rules.map (envR S)) = true := by
      unfold headT
      rw [List.all_eq_true, List.all_eq_true]
      constructor
      · intro f E hE
        obtain ⟨r, hr, rfl⟩ := List.mem_map.1 hE
        obtain ⟨i, hi, rfl⟩ := List.getElem_of_mem hr
        have hi' : i < m.length := by rw [h.1]; exact hi
        have h1 := f (envR S m[i]) (List.mem_map.2 ⟨_, List.getElem_mem hi', rfl⟩)
        rw [List.all_eq_true] at h1 ⊢
        intro v hv
        have h2 := h1 v hv
        have he := (turned_infer (S := S) (h.2 i hi hi')).2 (g _ (List.getElem_mem _))
        have hkk : kindE (envR S m[i]) v = kindE (envR S q.rules[i]) v := by unfold kindE; rw [he]
        have hk2 : kindE (((turnQ q m).rules.map (envR S)).headD []) v = kindE ((q.rules.map (envR S)).headD []) v := hk v
        rw [hkk, hk2] at h2
        exact h2
      · intro f E hE
        obtain ⟨r, hr, rfl⟩ := List.mem_map.1 hE
        obtain ⟨i, hi, rfl⟩ := List.getElem_of_mem hr
        have hi' : i < m.length := hi
        have hi2 : i < q.rules.length := by rw [← h.1]; exact hi'
        have h1 := f (envR S q.rules[i]) (List.mem_map.2 ⟨_, List.getElem_mem hi2, rfl⟩)
        rw [List.all_eq_true] at h1 ⊢
        intro v hv
        have h2 := h1 v hv
        have he := (turned_infer (S := S) (h.2 i hi2 hi')).2 (g _ (List.getElem_mem _))
        have hkk : kindE (envR S m[i]) v = kindE (envR S q.rules[i]) v := by unfold kindE; rw [he]
        have hk2 : kindE (((turnQ q m).rules.map (envR S)).headD []) v = kindE ((q.rules.map (envR S)).headD []) v := hk v
        show (kindE (envR S m[i]) v == kindE (((turnQ q m).rules.map (envR S)).headD []) v) = true
        rw [hkk, hk2]
        exact h2
    have ha : (turnQ q m).agg = 2 ∧ kindE (((turnQ q m).rules.map (envR S)).headD []) (turnQ q m).aggVar ≠ 1 ↔ q.agg = 2 ∧ kindE ((q.rules.map (envR S)).headD []) q.aggVar ≠ 1 := by
      have hk2 : kindE (((turnQ q m).rules.map (envR S)).headD []) q.aggVar = kindE ((q.rules.map (envR S)).headD []) q.aggVar := hk _
      show q.agg = 2 ∧ kindE (((turnQ q m).rules.map (envR S)).headD []) q.aggVar ≠ 1 ↔ _
      rw [hk2]
    rw [hv, hh, ha]
  refine ⟨hiff, ?_⟩
  by_cases hc : (checkT q S).1 = 0
  · have hc' := hiff.2 hc
    have g := (checkT_iff.1 hc).2.1
    rw [checkT_good hc, checkT_good hc']
    have hk := turned_heads h g
    refine ⟨?_, ?_, fun i h1 h2 => ?_⟩
    · show q.head.map _ = q.head.map _
      exact List.map_congr_left fun v _ => hk v
    · simp only [typesOf, List.length_map, List.length_zip]
      show min m.length m.length = _
      rw [h.1]
    · simp only [typesOf, List.length_map, List.length_zip] at h1 h2
      have hi : i < q.rules.length := by omega
      have hi' : i < m.length := by rw [h.1]; exact hi
      have ht := h.2 i hi hi'
      have he := (turned_infer (S := S) ht).2 (g _ (List.getElem_mem hi))
      have e1 : (typesOf q (q.rules.map (envR S))).rules[i]'(by simpa [typesOf] using hi) = (varsL q.rules[i]).map fun v => (v, kindE (envR S q.rules[i]) v) := by simp [typesOf]
      have e2 : (typesOf (turnQ q m) ((turnQ q m).rules.map (envR S))).rules[i]'(by simpa [typesOf, turnQ] using hi') = (varsL m[i]).map fun v => (v, kindE (envR S m[i]) v) := by simp [typesOf, turnQ]
      simp only [e1, e2, List.length_map]
      refine ⟨turned_len ht, ?_, fun p hp => ?_⟩
      · rw [List.map_map]
        have : ((fun p : Str × Int => p.1) ∘ fun v => (v, kindE (envR S q.rules[i]) v)) = id := rfl
        rw [this, List.map_id]
        exact varsL_nodup _
      · obtain ⟨v, hv, rfl⟩ := List.mem_map.1 hp
        refine List.mem_map.2 ⟨v, (turned_vars ht v).1 hv, ?_⟩
        have hkk : kindE (envR S m[i]) v = kindE (envR S q.rules[i]) v := by unfold kindE; rw [he]
        rw [hkk]
  · have hc' : (checkT (turnQ q m) S).1 ≠ 0 := fun g => hc (hiff.1 g)
    rw [checkT_bad hc, checkT_bad hc']
    exact ⟨rfl, rfl, fun i h1 => absurd h1 (by simp)⟩
end Go.Proofs.Ytgeapgbebbapmaa
