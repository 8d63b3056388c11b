/-
  PLAIN: schemas that a query does not use change nothing of its types; a rule repeated changes neither the error nor the head.
-/
import Derived.Test.YtgeapgbebbapmaaLwG
namespace Go.Proofs.Ytgeapgbebbapmaa

theorem findS_app {S M : List Sch} {n : Str} (h : ∀ m ∈ M, m.name ≠ n) : findS (S ++ M) n = findS S n := by
  unfold findS
  rw [List.find?_append]
  have : M.find? (fun s => s.name == n) = none := List.find?_eq_none.2 fun m hm => by simpa using h m hm
  rw [this]
  cases S.find? (fun s => s.name == n) <;> rfl
theorem atomT_app {S M : List Sch} {E : Env} {a : Atm} (h : ∀ m ∈ M, m.name ≠ a.rel) : atomT (S ++ M) E a = atomT S E a := by
  unfold atomT
  rw [findS_app h]
theorem inferT_app {S M : List Sch} : ∀ {l : List Atm} {E : Env}, (∀ a ∈ l, ∀ m ∈ M, m.name ≠ a.rel) → inferT (S ++ M) E l = inferT S E l
  | [], _, _ => rfl
  | a :: l, E, h => by
    rw [inferT, inferT, atomT_app (h a (List.mem_cons_self ..))]
    rw [inferT_app fun x hx => h x (List.mem_cons_of_mem _ hx)]
theorem inferAll_app {S M : List Sch} : ∀ {l : List Rul}, (∀ r ∈ l, ∀ a ∈ r.atoms, ∀ m ∈ M, m.name ≠ a.rel) → inferAll (S ++ M) l = inferAll S l
  | [], _ => rfl
  | r :: l, h => by
    rw [inferAll, inferAll, inferT_app (h r (List.mem_cons_self ..)), inferAll_app fun x hx => h x (List.mem_cons_of_mem _ hx)]
/-- Unused schemas. -/
theorem checkT_app {q : Qry} {S M : List Sch} (h : ∀ r ∈ q.rules, ∀ a ∈ r.atoms, ∀ m ∈ M, m.name ≠ a.rel) : checkT q (S ++ M) = checkT q S := by
  unfold checkT
  rw [inferAll_app h]

/-- A query with one of its rules once more. -/
def againQ (q : Qry) (r : Rul) : Qry := { q with rules := q.rules ++ [r] }
theorem firstE_app {α : Type} {f : α → Int} {x : α} : ∀ {l : List α}, x ∈ l → firstE f (l ++ [x]) = firstE f l
  | y :: l, h => by
    rw [List.cons_append, firstE, firstE]
    by_cases h0 : f y = 0
    · rw [if_pos h0, if_pos h0]
      by_cases hx : x ∈ l
      · exact firstE_app hx
      · rcases List.mem_cons.1 h with rfl | h
        · have : ∀ m : List α, firstE f (m ++ [x]) = firstE f m := by
            intro m
            induction m with
            | nil => show firstE f [x] = 0; rw [firstE, if_pos h0]; rfl
            | cons z m ih => rw [List.cons_append, firstE, firstE, ih]
          exact this l
        · exact absurd h hx
    · rw [if_neg h0, if_neg h0]
theorem checkQ_again {q : Qry} {r : Rul} (hr : r ∈ q.rules) (hl : q.rules.length < 3) (ha : q.agg = 0) : checkQ (againQ q r) = checkQ q := by
  have h0 : q.rules ≠ [] := fun e => by rw [e] at hr; cases hr
  unfold checkQ
  have c1 : ¬ (againQ q r).rules = [] := by simp [againQ]
  have c2 : ¬ (3 < (againQ q r).rules.length ∨ (1 < (againQ q r).rules.length ∧ (againQ q r).agg ≠ 0)) := by simp [againQ, ha]; omega
  have c3 : ¬ (3 < q.rules.length ∨ (1 < q.rules.length ∧ q.agg ≠ 0)) := by simp [ha]; omega
  rw [if_neg c1, if_neg c2, if_neg h0, if_neg c3]
  have e1 : headE (againQ q r).head = headE q.head := rfl
  have e2 : aggE (againQ q r) = aggE q := rfl
  have e3 : firstE (ruleE (againQ q r)) (againQ q r).rules = firstE (ruleE q) q.rules := by
    have : ruleE (againQ q r) = ruleE q := rfl
    rw [this]
    exact firstE_app hr
  have e4 : orderE (againQ q r) = orderE q := rfl
  rw [e1, e2, e3, e4]
theorem inferAll_bad {S : List Sch} {m : List Rul} : ∀ {l : List Rul}, (inferAll S l).1 ≠ 0 → (inferAll S (l ++ m)).1 = (inferAll S l).1
  | [], h => absurd rfl h
  | r :: l, h => by
    rw [List.cons_append]
    rw [inferAll] at h ⊢
    rw [inferAll]
    by_cases h1 : (inferT S [] r.atoms).1 = 0
    · rw [if_pos h1] at h ⊢
      rw [if_pos h1]
      by_cases h2 : (inferAll S l).1 = 0
      · rw [if_pos h2] at h
        exact absurd rfl h
      · have ih := inferAll_bad (m := m) h2
        rw [if_neg (by rw [ih]; exact h2), if_neg h2]
        exact ih
    · rw [if_neg h1, if_neg h1]
theorem inferAll_mem {S : List Sch} : ∀ {l : List Rul}, (inferAll S l).1 = 0 → (∀ r ∈ l, (inferT S [] r.atoms).1 = 0) ∧ (inferAll S l).2 = l.map fun r => (inferT S [] r.atoms).2
  | [], _ => ⟨fun _ h => absurd h (by simp), rfl⟩
  | r :: l, h => by
    rw [inferAll] at h ⊢
    by_cases h1 : (inferT S [] r.atoms).1 = 0
    · rw [if_pos h1] at h ⊢
      by_cases h2 : (inferAll S l).1 = 0
      · rw [if_pos h2]
        obtain ⟨i1, i2⟩ := inferAll_mem h2
        refine ⟨fun x hx => ?_, by simp [i2]⟩
        rcases List.mem_cons.1 hx with rfl | hx
        · exact h1
        · exact i1 x hx
      · rw [if_neg h2] at h
        exact absurd h h2
    · rw [if_neg h1] at h
      exact absurd h h1
theorem inferAll_of {S : List Sch} : ∀ {l : List Rul}, (∀ r ∈ l, (inferT S [] r.atoms).1 = 0) → inferAll S l = (0, l.map fun r => (inferT S [] r.atoms).2)
  | [], _ => rfl
  | r :: l, h => by
    rw [inferAll, if_pos (h r (List.mem_cons_self ..)), inferAll_of fun x hx => h x (List.mem_cons_of_mem _ hx)]
    rfl
theorem verifyAll_map {f : Rul → Env} : ∀ {l : List Rul}, verifyAll l (l.map f) = firstE (fun r => verifyT r (f r)) l
  | [] => rfl
  | r :: l => by
    rw [List.map_cons, verifyAll, firstE, verifyAll_map]
/-- A rule repeated: the same error; without one, the same head and one rule more. -/
theorem checkT_again {q : Qry} {S : List Sch} {r : Rul} (hr : r ∈ q.rules) (hl : q.rules.length < 3) (ha : q.agg = 0) :
    (checkT (againQ q r) S).1 = (checkT q S).1 ∧ (checkT (againQ q r) S).2.head = (checkT q S).2.head ∧ ((checkT q S).1 = 0 → (checkT (againQ q r) S).2.rules.length = (checkT q S).2.rules.length + 1) := by
  unfold checkT
  rw [checkQ_again hr hl ha]
  by_cases h0 : checkQ q ≠ 0
  · rw [if_pos h0, if_pos h0]
    exact ⟨rfl, rfl, fun h => absurd h h0⟩
  · rw [if_neg h0, if_neg h0]
    by_cases h1 : (inferAll S q.rules).1 = 0
    · obtain ⟨i1, i2⟩ := inferAll_mem h1
      have j1 := inferAll_of (S := S) (l := (againQ q r).rules) (fun x hx => by
        rcases List.mem_append.1 hx with hx | hx
        · exact i1 x hx
        · rw [List.mem_singleton] at hx
          exact i1 x (hx ▸ hr))
      have d1 : ¬ (inferAll S q.rules).1 ≠ 0 := by simpa using h1
      have d2 : ¬ (inferAll S (againQ q r).rules).1 ≠ 0 := by rw [j1]; simp
      rw [if_neg d1, if_neg d2, j1, i2]
      simp only
      have v0 : verifyAll (againQ q r).rules ((againQ q r).rules.map fun r => (inferT S [] r.atoms).2) = verifyAll q.rules (q.rules.map fun r => (inferT S [] r.atoms).2) := by
        rw [verifyAll_map, verifyAll_map]
        exact firstE_app hr
      rw [v0]
      by_cases h2 : verifyAll q.rules (q.rules.map fun r => (inferT S [] r.atoms).2) ≠ 0
      · rw [if_pos h2, if_pos h2]
        exact ⟨rfl, rfl, fun h => absurd h h2⟩
      · rw [if_neg h2, if_neg h2]
        have hd : ((againQ q r).rules.map fun r => (inferT S [] r.atoms).2).headD [] = (q.rules.map fun r => (inferT S [] r.atoms).2).headD [] := by
          match hq : q.rules, hr with
          | x :: l, _ => simp [againQ, hq]
        have ht : headT (againQ q r) ((againQ q r).rules.map fun r => (inferT S [] r.atoms).2) = headT q (q.rules.map fun r => (inferT S [] r.atoms).2) := by
          unfold headT
          rw [hd]
          rw [Bool.eq_iff_iff, List.all_eq_true, List.all_eq_true]
          constructor
          · intro h E hE
            obtain ⟨x, hx, rfl⟩ := List.mem_map.1 hE
            exact h _ (List.mem_map.2 ⟨x, List.mem_append_left _ hx, rfl⟩)
          · intro h E hE
            obtain ⟨x, hx, rfl⟩ := List.mem_map.1 hE
            rcases List.mem_append.1 hx with hx | hx
            · exact h _ (List.mem_map.2 ⟨x, hx, rfl⟩)
            · rw [List.mem_singleton] at hx
              subst hx
              exact h _ (List.mem_map.2 ⟨x, hr, rfl⟩)
        rw [ht]
        have hag : (againQ q r).agg = q.agg := rfl
        by_cases h3 : headT q (q.rules.map fun r => (inferT S [] r.atoms).2) = false
        · rw [if_pos h3, if_pos h3]
          exact ⟨rfl, rfl, fun h => absurd h (by decide)⟩
        · rw [if_neg h3, if_neg h3, if_neg (by rw [hag, ha]; simp), if_neg (by rw [ha]; simp)]
          refine ⟨rfl, ?_, fun _ => ?_⟩
          · show q.head.map (kindE _) = q.head.map (kindE _)
            rw [hd]
          · show ((((q.rules ++ [r]).zip ((q.rules ++ [r]).map _)).map _).length = ((q.rules.zip (q.rules.map _)).map _).length + 1)
            simp
    · have h1' := inferAll_bad (m := [r]) h1
      have e : (againQ q r).rules = q.rules ++ [r] := rfl
      rw [e, h1', if_pos h1, if_pos h1]
      exact ⟨rfl, rfl, fun h => absurd h h1⟩
end Go.Proofs.Ytgeapgbebbapmaa
