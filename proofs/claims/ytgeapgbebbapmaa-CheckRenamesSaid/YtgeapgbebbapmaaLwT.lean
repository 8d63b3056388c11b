/-
  PLAIN: what the document expects of a query is what Check tells.
-/
import Derived.Test.YtgeapgbebbapmaaUnuA
namespace Go.Proofs.Ytgeapgbebbapmaa

/-- The document's types of a query: as checkT, but the variables as they were inferred. -/
def wantT (q : Qry) (S : List Sch) : Int × Typ :=
  if checkQ q ≠ 0 then (checkQ q, ⟨[], []⟩)
  else if (inferAll S q.rules).1 ≠ 0 then ((inferAll S q.rules).1, ⟨[], []⟩)
  else if verifyAll q.rules (inferAll S q.rules).2 ≠ 0 then (verifyAll q.rules (inferAll S q.rules).2, ⟨[], []⟩)
  else if headT q (inferAll S q.rules).2 = false then (5, ⟨[], []⟩)
  else if q.agg = 2 ∧ kindE ((inferAll S q.rules).2.headD []) q.aggVar ≠ 1 then (5, ⟨[], []⟩)
  else (0, ⟨q.head.map (kindE ((inferAll S q.rules).2.headD [])), (inferAll S q.rules).2⟩)

theorem inferAll_each {S : List Sch} : ∀ {l : List Rul}, (inferAll S l).1 = 0 → (∀ r ∈ l, (inferT S [] r.atoms).1 = 0) ∧ (inferAll S l).2 = l.map fun r => (inferT S [] r.atoms).2
  | [], _ => ⟨fun _ h => absurd h (by simp), rfl⟩
  | r :: l, h => by
    rw [inferAll] at h ⊢
    by_cases h1 : (inferT S [] r.atoms).1 = 0
    · rw [if_pos h1] at h ⊢
      by_cases h2 : (inferAll S l).1 = 0
      · rw [if_pos h2]
        obtain ⟨i1, i2⟩ := inferAll_each h2
        refine ⟨fun x hx => ?_, by simp [i2]⟩
        rcases List.mem_cons.1 hx with rfl | hx
        · exact h1
        · exact i1 x hx
      · rw [if_neg h2] at h
        exact absurd h h2
    · rw [if_neg h1] at h
      exact absurd h h1
/-- The names of kinds: no two alike, none empty. -/
def okEnv (E : Env) : Prop := (E.map (·.1)).Nodup ∧ ∀ p ∈ E, p.1 ≠ []
theorem getE_none {E : Env} {v : Str} : getE E v = none ↔ v ∉ E.map (·.1) := by
  unfold getE
  rw [Option.map_eq_none_iff, List.find?_eq_none]
  constructor
  · intro h hv
    obtain ⟨p, hp, rfl⟩ := List.mem_map.1 hv
    exact absurd (h p hp) (by simp)
  · intro h p hp
    simp only [beq_iff_eq]
    rintro rfl
    exact h (List.mem_map.2 ⟨p, hp, rfl⟩)
theorem termT_names {E E' : Env} {t : Trm} {k : Int} (h : termT E t k = some E') : E'.map (·.1) = addN (E.map (·.1)) t.v := by
  rcases termT_ways E t k with ⟨hv, _, h2⟩ | ⟨_, _, h2⟩ | ⟨hv, hg, h2⟩ | ⟨_, _, _, _, h2⟩ | ⟨hv, hg, h2⟩
  · rw [h2] at h; injection h with h; subst h
    unfold addN; rw [if_pos (.inl hv)]
  · rw [h2] at h; cases h
  · rw [h2] at h; injection h with h; subst h
    unfold addN
    rw [if_pos (.inr (by
      refine Classical.byContradiction fun hn => ?_
      rw [getE_none.2 hn] at hg
      cases hg))]
  · rw [h2] at h; cases h
  · rw [h2] at h; injection h with h; subst h
    unfold addN
    rw [if_neg (by
      rintro (h | h)
      · exact hv h
      · exact getE_none.1 hg h)]
    simp
theorem termsT_names : ∀ {ts : List Trm} {ks : List Int} {E E' : Env}, ts.length = ks.length → termsT E ts ks = some E' → E'.map (·.1) = (ts.map (·.v)).foldl addN (E.map (·.1))
  | [], [], E, E', _, h => by injection h with h; subst h; rfl
  | t :: ts, k :: ks, E, E', hl, h => by
    rw [termsT] at h
    cases hm : termT E t k with
    | none => rw [hm] at h; cases h
    | some F =>
      rw [hm] at h
      have h1 := termsT_names (ts := ts) (ks := ks) (by simpa using hl) h
      rw [h1, termT_names hm]; rfl
  | [], _ :: _, _, _, hl, _ => by simp at hl
  | _ :: _, [], _, _, hl, _ => by simp at hl
theorem inferT_names {S : List Sch} : ∀ {l : List Atm} {E : Env}, (inferT S E l).1 = 0 → (inferT S E l).2.map (·.1) = (l.flatMap atomVs).foldl addN (E.map (·.1))
  | [], E, _ => rfl
  | a :: l, E, h => by
    rw [inferT] at h ⊢
    by_cases h0 : (atomT S E a).1 = 0
    · rw [if_pos h0] at h ⊢
      rw [inferT_names h, List.flatMap_cons, List.foldl_append]
      congr 1
      unfold atomT at h0 ⊢
      cases hs : findS S a.rel with
      | none => rw [hs] at h0; exact absurd h0 (by simp)
      | some s =>
        rw [hs] at h0
        simp only at h0 ⊢
        by_cases hl : a.ts.length ≠ s.kinds.length
        · rw [if_pos hl] at h0; exact absurd h0 (by simp)
        · rw [if_neg hl] at h0 ⊢
          cases ht : termsT E a.ts s.kinds with
          | none => rw [ht] at h0; exact absurd h0 (by simp)
          | some F => exact termsT_names (by simpa using hl) ht
    · rw [if_neg h0] at h; exact absurd h h0
theorem addNs_old : ∀ {l acc : List Str}, (∀ v ∈ l, v = [] ∨ v ∈ acc) → l.foldl addN acc = acc
  | [], _, _ => rfl
  | v :: l, acc, h => by
    have hv : addN acc v = acc := by unfold addN; rw [if_pos (h v (List.mem_cons_self ..))]
    rw [List.foldl_cons, hv]
    exact addNs_old fun x hx => h x (List.mem_cons_of_mem _ hx)
theorem addNs_nodup : ∀ {l acc : List Str}, acc.Nodup → (l.foldl addN acc).Nodup
  | [], _, h => h
  | v :: l, acc, h => by
    rw [List.foldl_cons]
    refine addNs_nodup ?_
    unfold addN
    by_cases hv : v = [] ∨ v ∈ acc
    · rw [if_pos hv]; exact h
    · rw [if_neg hv, List.nodup_append]
      refine ⟨h, by simp, fun a ha b hb => ?_⟩
      rw [List.mem_singleton] at hb
      subst hb
      rintro rfl
      exact hv (.inr ha)
/-- A list of kinds, by its names. -/
theorem env_back : ∀ {E : Env}, (E.map (·.1)).Nodup → (E.map (·.1)).map (fun v => (v, kindE E v)) = E
  | [], _ => rfl
  | (n, k) :: E, h => by
    rw [List.map_cons, List.nodup_cons] at h
    rw [List.map_cons, List.map_cons]
    have h0 : kindE ((n, k) :: E) n = k := by simp [kindE, getE]
    congr 1
    · simp only [h0]
    · have ih := env_back h.2
      refine Eq.trans ?_ ih
      refine List.map_congr_left fun v hv => ?_
      have hne : n ≠ v := fun e => h.1 (by simpa [e] using hv)
      have : kindE ((n, k) :: E) v = kindE E v := by
        unfold kindE getE
        rw [List.find?_cons, beq_eq_false_iff_ne.2 hne]
      rw [this]
theorem rule_types {S : List Sch} {r : Rul} (h : (inferT S [] r.atoms).1 = 0) (hb : ∀ c ∈ r.conds, c.v = [] ∨ c.v ∈ r.atoms.flatMap atomVs) : (varsL r).map (fun v => (v, kindE (inferT S [] r.atoms).2 v)) = (inferT S [] r.atoms).2 := by
  have h1 := inferT_names h
  simp only [List.map_nil] at h1
  have h2 : varsL r = (r.atoms.flatMap atomVs).foldl addN [] := by
    unfold varsL allVs
    rw [List.foldl_append]
    refine addNs_old fun v hv => ?_
    obtain ⟨c, hc, rfl⟩ := List.mem_map.1 hv
    by_cases h0 : c.v = []
    · exact .inl h0
    · rcases hb c hc with h3 | h3
      · exact absurd h3 h0
      · exact .inr ((addNs_in _ _ _).2 (.inr ⟨h3, h0⟩))
  rw [h2, ← h1]
  refine env_back ?_
  rw [h1]
  exact addNs_nodup (by simp)
theorem checkQ_bound {q : Qry} (h : checkQ q = 0) : ∀ r ∈ q.rules, ∀ c ∈ r.conds, c.v = [] ∨ c.v ∈ r.atoms.flatMap atomVs := by
  intro r hr c hc
  unfold checkQ at h
  by_cases h0 : q.rules = []
  · rw [if_pos h0] at h; exact absurd h (by decide)
  rw [if_neg h0] at h
  by_cases h1 : 3 < q.rules.length ∨ (1 < q.rules.length ∧ q.agg ≠ 0)
  · rw [if_pos h1] at h; exact absurd h (by decide)
  rw [if_neg h1] at h
  by_cases h2 : headE q.head ≠ 0
  · rw [if_pos h2] at h; exact absurd h h2
  rw [if_neg h2] at h
  by_cases h3 : aggE q ≠ 0
  · rw [if_pos h3] at h; exact absurd h h3
  rw [if_neg h3] at h
  by_cases h4 : firstE (ruleE q) q.rules ≠ 0
  · rw [if_pos h4] at h; exact absurd h h4
  have h5 := firstE_zero (by simpa using h4) r hr
  unfold ruleE at h5
  by_cases h6 : itemsE r = 0
  · rw [if_pos h6] at h5
    by_cases h7 : 8 < (varsL r).length
    · rw [if_pos h7] at h5; exact absurd h5 (by decide)
    · rw [if_neg h7] at h5
      by_cases h8 : (needL q ++ varsL r).all (boundB r) = true
      · by_cases hv : c.v = []
        · exact .inl hv
        · have hin : c.v ∈ varsL r := vars_in.2 ⟨List.mem_append_right _ (List.mem_map.2 ⟨c, hc, rfl⟩), hv⟩
          have hb := List.all_eq_true.1 h8 c.v (List.mem_append_right _ hin)
          unfold boundB at hb
          rw [List.any_eq_true] at hb
          obtain ⟨a, ha, hb⟩ := hb
          rw [Bool.and_eq_true, List.any_eq_true] at hb
          obtain ⟨_, t, ht, he⟩ := hb
          refine .inr (List.mem_flatMap.2 ⟨a, ha, List.mem_map.2 ⟨t, ht, ?_⟩⟩)
          simpa using he
      · rw [if_neg h8] at h5; exact absurd h5 (by decide)
  · rw [if_neg h6] at h5; exact absurd h5 h6
/-- The law. -/
theorem want_eq (q : Qry) (S : List Sch) : wantT q S = checkT q S := by
  unfold wantT checkT
  by_cases h0 : checkQ q ≠ 0
  · rw [if_pos h0, if_pos h0]
  rw [if_neg h0, if_neg h0]
  by_cases h1 : (inferAll S q.rules).1 ≠ 0
  · rw [if_pos h1, if_pos h1]
  rw [if_neg h1, if_neg h1]
  have hb := checkQ_bound (q := q) (by simpa using h0)
  obtain ⟨i1, i2⟩ := inferAll_each (S := S) (l := q.rules) (by simpa using h1)
  have ht : (typesOf q (inferAll S q.rules).2).rules = (inferAll S q.rules).2 := by
    rw [i2]
    unfold typesOf
    simp only
    have : ∀ l : List Rul, (∀ r ∈ l, (inferT S [] r.atoms).1 = 0 ∧ ∀ c ∈ r.conds, c.v = [] ∨ c.v ∈ r.atoms.flatMap atomVs) → (l.zip (l.map fun r => (inferT S [] r.atoms).2)).map (fun p => (varsL p.1).map fun v => (v, kindE p.2 v)) = l.map fun r => (inferT S [] r.atoms).2 := by
      intro l hl
      induction l with
      | nil => rfl
      | cons r l ih =>
        rw [List.map_cons, List.zip_cons_cons, List.map_cons, ih fun x hx => hl x (List.mem_cons_of_mem _ hx)]
        congr 1
        exact rule_types (hl r (List.mem_cons_self ..)).1 (hl r (List.mem_cons_self ..)).2
    exact this q.rules fun r hr => ⟨i1 r hr, hb r hr⟩
  have he : (⟨q.head.map (kindE ((inferAll S q.rules).2.headD [])), (inferAll S q.rules).2⟩ : Typ) = typesOf q (inferAll S q.rules).2 := by
    have h3 : (typesOf q (inferAll S q.rules).2).head = q.head.map (kindE ((inferAll S q.rules).2.headD [])) := rfl
    cases htt : typesOf q (inferAll S q.rules).2 with
    | mk a b =>
      rw [htt] at ht h3
      simp only at ht h3
      rw [ht, h3]
  rw [he]
end Go.Proofs.Ytgeapgbebbapmaa
