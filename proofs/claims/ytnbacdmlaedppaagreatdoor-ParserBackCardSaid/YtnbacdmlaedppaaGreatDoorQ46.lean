/-
  PARTS of a claim, merged by segs.py: PgM, Txt.
-/
import Derived.Test.YtnbacdmlaedppaaGreatDoorQ05
import Derived.Test.YtnbacdmlaedppaaGreatDoorQ04
import Derived.Test.YtnbacdmlaedppaaGreatDoorQ02
import Derived.Test.YtnbacdmlaedppaaGreatDoorQ01
namespace Go.Proofs.YtnbacdmlaedppaaGreatDoor

/-! ### PgM -/
section

section
variable {t u : Tok}
theorem bare_k (h : u.bare = t.bare) : u.k = t.k := congrArg (·.1) h
theorem bare_t (h : u.bare = t.bare) : u.t = t.t := congrArg (·.2.1) h
theorem bare_v (h : u.bare = t.bare) : u.v = t.v := congrArg (·.2.2) h
theorem bare_isT (h : u.bare = t.bare) (s : Str) : isT u s = isT t s := by unfold isT; rw [bare_k h, bare_t h]
theorem bare_constT (h : u.bare = t.bare) : constT u = constT t := by unfold constT; rw [bare_k h, bare_v h]
theorem bare_termT (h : u.bare = t.bare) : termT u = termT t := by unfold termT; rw [bare_k h, bare_t h, bare_constT h]
theorem bare_opT (h : u.bare = t.bare) : opT u = opT t := by unfold opT; simp only [bare_isT h]
theorem bare_aggT (h : u.bare = t.bare) : aggT u = aggT t := by unfold aggT; simp only [bare_isT h]
end
section
variable {tk tk' : Nat → Tok} (h : ∀ i, (tk' i).bare = (tk i).bare)
include h
theorem termsS_bare : ∀ (f i : Nat) (acc : List Trm), termsS tk' f i acc = termsS tk f i acc
  | 0, _, _ => rfl
  | f + 1, i, acc => by
    unfold termsS
    rw [bare_termT (h i), bare_isT (h (i + 1)), bare_isT (h (i + 1))]
    simp only [termsS_bare f]
theorem parenS_bare (f i : Nat) : parenS tk' f i = parenS tk f i := by unfold parenS; rw [bare_isT (h i), termsS_bare h]
theorem itemS_bare (f i : Nat) (r : Rul) : itemS tk' f i r = itemS tk f i r := by
  unfold itemS
  simp only [bare_isT (h _), bare_k (h _), bare_t (h _), bare_opT (h _), bare_constT (h _), parenS_bare h]
theorem ruleG_bare (n : Nat) : ∀ (f i : Nat) (r : Rul), ruleG tk' n f i r = ruleG tk n f i r
  | 0, _, _ => rfl
  | f + 1, i, r => by
    unfold ruleG
    simp only [itemS_bare h, bare_isT (h _), ruleG_bare n f]
theorem namesS_bare : ∀ (f i : Nat) (acc : List Str), namesS tk' f i acc = namesS tk f i acc
  | 0, _, _ => rfl
  | f + 1, i, acc => by
    unfold namesS
    simp only [bare_isT (h _), bare_k (h _), bare_t (h _), namesS_bare f]
theorem aggG_bare (i : Nat) (q : Qry) : aggG tk' i q = aggG tk i q := by
  unfold aggG
  simp only [bare_isT (h _), bare_aggT (h _), bare_k (h _), bare_t (h _)]
theorem endS_bare (i : Nat) (q : Qry) : endS tk' i q = endS tk i q := by unfold endS; simp only [bare_isT (h _)]
theorem semiS_bare (i : Nat) (q : Qry) : semiS tk' i q = semiS tk i q := by unfold semiS; simp only [bare_isT (h _), aggG_bare h, endS_bare h]
theorem headS_bare (n : Nat) : headG tk' n = headG tk n := by
  unfold headG
  simp only [bare_isT (h _), bare_k (h _), bare_t (h _), namesS_bare h, semiS_bare h]
theorem keysS_bare : ∀ (f i : Nat) (acc : List Ky), keysS tk' f i acc = keysS tk f i acc
  | 0, _, _ => rfl
  | f + 1, i, acc => by
    unfold keysS
    simp only [bare_isT (h _), bare_k (h _), bare_t (h _), keysS_bare f]
theorem rulesS_bare (n : Nat) : ∀ (f i : Nat) (acc : List Rul), rulesS tk' n f i acc = rulesS tk n f i acc
  | 0, _, _ => rfl
  | f + 1, i, acc => by
    unfold rulesS
    simp only [ruleG_bare h, bare_isT (h _), rulesS_bare n f]
theorem queryS_bare (n : Nat) : queryS tk' n = queryS tk n := by
  unfold queryS
  simp only [headS_bare h, rulesS_bare h, keysS_bare h, bare_isT (h _)]
end
theorem fullS_bare {α : Type} {tk tk' : Nat → Tok} (h : ∀ i, (tk' i).bare = (tk i).bare) (o : Out α) : fullS tk' o = fullS tk o := by
  unfold fullS
  cases o with
  | bad b => rfl
  | ok x nx => simp only [bare_k (h nx)]
theorem tkL_bare {l m : List Tok} (h : m.map Tok.bare = l.map Tok.bare) (i : Nat) : (tkL m i).bare = (tkL l i).bare := by
  have hl : m.length = l.length := by simpa using congrArg List.length h
  unfold tkL
  rw [hl]
  have e : ∀ (x : List Tok) (j : Nat), (x.getD j T0).bare = (x.map Tok.bare).getD j T0.bare := by
    intro x j
    simp only [List.getD_eq_getElem?_getD, List.getElem?_map]
    cases x[j]? <;> rfl
  rw [e, e, h]
/-- The query and the error's number hang on the tokens without their places. -/
theorem gramQ_bare {l m : List Tok} (h : m.map Tok.bare = l.map Tok.bare) : (gramQ m).1 = (gramQ l).1 ∧ (gramQ m).2.2 = (gramQ l).2.2 := by
  have hl : m.length = l.length := by simpa using congrArg List.length h
  unfold gramQ
  rw [queryS_bare (tkL_bare h), fullS_bare (tkL_bare h), hl]
  cases fullS (tkL l) (queryS (tkL l) l.length) <;> exact ⟨rfl, rfl⟩

/-- tk' from i + d to j + d reads as tk from i to j. -/
def Agr (tk tk' : Nat → Tok) (d i j : Nat) : Prop := ∀ k, i ≤ k → k < j → (tk' (k + d)).bare = (tk k).bare
section
variable {tk tk' : Nat → Tok} {d : Nat}
theorem Agr.sub {i j i' j' : Nat} (h : Agr tk tk' d i j) (hi : i ≤ i') (hj : j' ≤ j) : Agr tk tk' d i' j' := fun k h1 h2 => h k (by omega) (by omega)
theorem termsS_gt : ∀ {f i nx : Nat} {acc ts : List Trm}, termsS tk f i acc = .ok ts nx → i + 2 ≤ nx
  | 0, i, nx, acc, ts, e => by cases e
  | f + 1, i, nx, acc, ts, e => by
    unfold termsS at e
    cases ht : termT (tk i) with
    | none => rw [ht] at e; cases e
    | some t =>
      rw [ht] at e
      simp only at e
      split at e
      · injection e with _ e2; omega
      · split at e
        · have := termsS_gt e; omega
        · cases e
theorem termsS_move : ∀ {f f' i nx : Nat} {acc ts : List Trm}, termsS tk f i acc = .ok ts nx → Agr tk tk' d i nx → f ≤ f' → termsS tk' f' (i + d) acc = .ok ts (nx + d)
  | 0, f', i, nx, acc, ts, e, _, _ => by cases e
  | f + 1, 0, i, nx, acc, ts, e, _, hf => by omega
  | f + 1, f' + 1, i, nx, acc, ts, e, hA, hf => by
    have hg := termsS_gt e
    have h0 := hA i (by omega) (by omega)
    have h1 := hA (i + 1) (by omega) (by omega)
    unfold termsS at e ⊢
    rw [show i + d + 1 = i + 1 + d by omega, bare_termT h0, bare_isT h1, bare_isT h1]
    cases ht : termT (tk i) with
    | none => rw [ht] at e; cases e
    | some t =>
      rw [ht] at e
      simp only at e ⊢
      split at e
      · rename_i hs
        injection e with e1 e2
        rw [if_pos hs, e1, ← e2]
        congr 1; omega
      · rename_i hs
        split at e
        · rename_i hc
          rw [if_neg hs, if_pos hc, show i + d + 2 = i + 2 + d by omega]
          exact termsS_move e (hA.sub (by omega) (by omega)) (by omega)
        · cases e
theorem parenS_gt {f i nx : Nat} {ts : List Trm} (e : parenS tk f i = .ok ts nx) : i < nx := by
  unfold parenS at e
  split at e
  · injection e with _ e2; omega
  · have := termsS_gt e; omega
theorem parenS_move {f f' i nx : Nat} {ts : List Trm} (e : parenS tk f i = .ok ts nx) (hA : Agr tk tk' d i nx) (hf : f ≤ f') : parenS tk' f' (i + d) = .ok ts (nx + d) := by
  have hg := parenS_gt e
  unfold parenS at e ⊢
  rw [bare_isT (hA i (by omega) hg)]
  split at e
  · rename_i hs
    injection e with e1 e2
    rw [if_pos hs, e1, ← e2]
    congr 1; omega
  · rename_i hs
    rw [if_neg hs]
    exact termsS_move e hA hf
theorem itemS_gt {n i nx : Nat} {r r' : Rul} (e : itemS tk n i r = .ok r' nx) : (if isT (tk i) sNot = true then i + 1 else i) + 2 < nx := by
  unfold itemS at e
  simp only at e
  obtain ⟨j, hj⟩ : ∃ j, (if isT (tk i) sNot = true then i + 1 else i) = j := ⟨_, rfl⟩
  rw [hj] at e ⊢
  split at e
  · cases e
  · split at e
    · cases hp : parenS tk n (j + 2) with
      | bad x => rw [hp] at e; cases e
      | ok ts nx2 => rw [hp] at e; injection e with _ e2; have := parenS_gt hp; omega
    · split at e
      · cases e
      · split at e
        · cases e
        · split at e
          · cases e
          · injection e with _ e2; omega
theorem itemS_move {n n' i nx : Nat} {r r' : Rul} (e : itemS tk n i r = .ok r' nx) (hA : Agr tk tk' d i nx) (hn : n ≤ n') : itemS tk' n' (i + d) r = .ok r' (nx + d) := by
  have hg := itemS_gt e
  have hij : i ≤ (if isT (tk i) sNot = true then i + 1 else i) := by split <;> omega
  have h0 := hA i (by omega) (by omega)
  unfold itemS at e ⊢
  simp only at e ⊢
  rw [bare_isT h0]
  have hj : (if isT (tk i) sNot = true then i + d + 1 else i + d) = (if isT (tk i) sNot = true then i + 1 else i) + d := by split <;> omega
  rw [hj]
  generalize (if isT (tk i) sNot = true then i + 1 else i) = j at *
  rw [show j + d + 1 = j + 1 + d by omega, show j + d + 2 = j + 2 + d by omega]
  have k0 := hA j hij (by omega)
  have k1 := hA (j + 1) (by omega) (by omega)
  have k2 := hA (j + 2) (by omega) (by omega)
  rw [bare_k k0, bare_t k0, bare_isT k1, bare_opT k1, bare_constT k2]
  split at e
  · cases e
  · rename_i c1
    rw [if_neg c1]
    split at e
    · rename_i c2
      rw [if_pos c2]
      cases hp : parenS tk n (j + 2) with
      | bad x => rw [hp] at e; cases e
      | ok ts nx2 =>
        rw [hp] at e
        injection e with e1 e2
        subst e2
        rw [parenS_move hp (hA.sub (by omega) (by omega)) hn]
        simp only
        rw [e1]
    · rename_i c2
      rw [if_neg c2]
      split at e
      · cases e
      · rename_i c3
        rw [if_neg c3]
        cases ho : opT (tk (j + 1)) with
        | none => rw [ho] at e; cases e
        | some o =>
          rw [ho] at e
          simp only at e ⊢
          cases hc : constT (tk (j + 2)) with
          | none => rw [hc] at e; cases e
          | some v =>
            rw [hc] at e
            injection e with e1 e2
            simp only
            rw [e1, ← e2]
            congr 1; omega
theorem ruleG_gt {n : Nat} : ∀ {f i nx : Nat} {r r' : Rul}, ruleG tk n f i r = .ok r' nx → i + 2 < nx
  | 0, i, nx, r, r', e => by cases e
  | f + 1, i, nx, r, r', e => by
    unfold ruleG at e
    cases hi : itemS tk n i r with
    | bad x => rw [hi] at e; cases e
    | ok r2 nx2 =>
      rw [hi] at e
      simp only at e
      have h2 := itemS_gt hi
      have h3 : i ≤ (if isT (tk i) sNot = true then i + 1 else i) := by split <;> omega
      split at e
      · have := ruleG_gt e; omega
      · injection e with _ e2; omega
theorem ruleG_move {n n' : Nat} (hn : n ≤ n') : ∀ {f f' i nx : Nat} {r r' : Rul}, ruleG tk n f i r = .ok r' nx → Agr tk tk' d i nx → isT (tk' (nx + d)) sComma = false → f ≤ f' → ruleG tk' n' f' (i + d) r = .ok r' (nx + d)
  | 0, f', i, nx, r, r', e, _, _, _ => by cases e
  | f + 1, 0, i, nx, r, r', e, _, _, hf => by omega
  | f + 1, f' + 1, i, nx, r, r', e, hA, hs, hf => by
    unfold ruleG at e ⊢
    cases hi : itemS tk n i r with
    | bad x => rw [hi] at e; cases e
    | ok r2 nx2 =>
      rw [hi] at e
      simp only at e
      split at e
      · rename_i hc
        have hg := ruleG_gt e
        have h2 := itemS_gt hi
        have h3 : i ≤ (if isT (tk i) sNot = true then i + 1 else i) := by split <;> omega
        rw [itemS_move hi (hA.sub (by omega) (by omega)) hn]
        simp only
        rw [bare_isT (hA nx2 (by omega) (by omega)), if_pos hc, show nx2 + d + 1 = nx2 + 1 + d by omega]
        exact ruleG_move hn e (hA.sub (by omega) (by omega)) hs (by omega)
      · injection e with e1 e2
        subst e2
        rw [itemS_move hi hA hn]
        simp only
        rw [hs, if_neg (by decide), e1]
theorem rulesS_gt {n : Nat} : ∀ {f i nx : Nat} {a b : List Rul}, rulesS tk n f i a = .ok b nx → i + 2 < nx
  | 0, i, nx, a, b, e => by cases e
  | f + 1, i, nx, a, b, e => by
    unfold rulesS at e
    cases hi : ruleG tk n n i ⟨[], []⟩ with
    | bad x => rw [hi] at e; cases e
    | ok r2 nx2 =>
      rw [hi] at e
      simp only at e
      have h2 := ruleG_gt hi
      split at e
      · have := rulesS_gt e; omega
      · injection e with _ e2; omega
theorem rulesS_move {n n' : Nat} (hn : n ≤ n') : ∀ {f f' i nx : Nat} {a b : List Rul}, rulesS tk n f i a = .ok b nx → Agr tk tk' d i nx → isT (tk' (nx + d)) sComma = false → isT (tk' (nx + d)) sBar = false → f ≤ f' → rulesS tk' n' f' (i + d) a = .ok b (nx + d)
  | 0, f', i, nx, a, b, e, _, _, _, _ => by cases e
  | f + 1, 0, i, nx, a, b, e, _, _, _, hf => by omega
  | f + 1, f' + 1, i, nx, a, b, e, hA, hs, hb, hf => by
    unfold rulesS at e ⊢
    cases hi : ruleG tk n n i ⟨[], []⟩ with
    | bad x => rw [hi] at e; cases e
    | ok r2 nx2 =>
      rw [hi] at e
      simp only at e
      split at e
      · rename_i hc
        have hg := rulesS_gt e
        have h2 := ruleG_gt hi
        have h4 := hA nx2 (by omega) (by omega)
        have hnc : isT (tk' (nx2 + d)) sComma = false := by
          rw [bare_isT h4]
          have hcc := hc
          unfold isT at hcc ⊢
          simp only [Bool.and_eq_true, beq_iff_eq] at hcc
          rw [hcc.2]; simp [sBar, sComma]
        rw [ruleG_move hn hi (hA.sub (by omega) (by omega)) hnc hn]
        simp only
        rw [bare_isT h4, if_pos hc, show nx2 + d + 1 = nx2 + 1 + d by omega]
        exact rulesS_move hn e (hA.sub (by omega) (by omega)) hs hb (by omega)
      · injection e with e1 e2
        subst e2
        rw [ruleG_move hn hi hA hs hn]
        simp only
        rw [hb, if_neg (by decide), e1]
theorem namesS_gt : ∀ {f i nx : Nat} {a b : List Str}, namesS tk f i a = .ok b nx → i < nx
  | 0, i, nx, a, b, e => by cases e
  | f + 1, i, nx, a, b, e => by
    unfold namesS at e
    split at e
    · cases e
    · split at e
      · have := namesS_gt e; omega
      · injection e with _ e2; omega
theorem namesS_move : ∀ {f f' i nx : Nat} {a b : List Str}, namesS tk f i a = .ok b nx → Agr tk tk' 0 i (nx + 1) → f ≤ f' → namesS tk' f' i a = .ok b nx
  | 0, f', i, nx, a, b, e, _, _ => by cases e
  | f + 1, 0, i, nx, a, b, e, _, hf => by omega
  | f + 1, f' + 1, i, nx, a, b, e, hA, hf => by
    have hg := namesS_gt e
    have h0 := hA i (by omega) (by omega)
    have h1 := hA (i + 1) (by omega) (by omega)
    rw [Nat.add_zero] at h0 h1
    unfold namesS at e ⊢
    rw [bare_k h0, bare_t h0, bare_isT h1]
    split at e
    · cases e
    · rename_i c1
      rw [if_neg c1]
      split at e
      · rename_i c2
        have hg := namesS_gt e
        rw [if_pos c2]
        exact namesS_move e (hA.sub (by omega) (by omega)) (by omega)
      · rename_i c2
        rw [if_neg c2]
        exact e
theorem endS_gt {i nx : Nat} {q q' : Qry} (e : endS tk i q = .ok q' nx) : nx = i + 2 := by
  unfold endS at e
  split at e
  · split at e
    · injection e with _ e2; omega
    · cases e
  · cases e
theorem endS_move {i nx : Nat} {q q' : Qry} (e : endS tk i q = .ok q' nx) (hA : Agr tk tk' 0 i nx) : endS tk' i q = .ok q' nx := by
  have hg := endS_gt e
  have h0 := hA i (by omega) (by omega)
  have h1 := hA (i + 1) (by omega) (by omega)
  rw [Nat.add_zero] at h0 h1
  unfold endS at e ⊢
  rw [bare_isT h0, bare_isT h1]
  exact e
theorem aggG_gt {i nx : Nat} {q q' : Qry} (e : aggG tk i q = .ok q' nx) : i < nx := by
  unfold aggG at e
  split at e
  · injection e with _ e2; omega
  · split at e
    · cases e
    · split at e
      · cases e
      · injection e with _ e2; omega
theorem aggG_move {i nx : Nat} {q q' : Qry} (e : aggG tk i q = .ok q' nx) (hA : Agr tk tk' 0 i (nx + 1)) : aggG tk' i q = .ok q' nx := by
  have hg := aggG_gt e
  have h0 := hA i (by omega) (by omega)
  have h1 := hA (i + 1) (by omega) (by omega)
  rw [Nat.add_zero] at h0 h1
  unfold aggG at e ⊢
  rw [bare_isT h0, bare_aggT h0, bare_k h1, bare_t h1]
  exact e
theorem semiS_gt {i nx : Nat} {q q' : Qry} (e : semiS tk i q = .ok q' nx) : i + 2 ≤ nx := by
  unfold semiS at e
  split at e
  · cases ha : aggG tk (i + 1) q with
    | bad x => rw [ha] at e; cases e
    | ok q2 nx2 => rw [ha] at e; have := aggG_gt ha; have := endS_gt e; omega
  · have := endS_gt e; omega
theorem semiS_move {i nx : Nat} {q q' : Qry} (e : semiS tk i q = .ok q' nx) (hA : Agr tk tk' 0 i nx) : semiS tk' i q = .ok q' nx := by
  have hg := semiS_gt e
  have h0 := hA i (by omega) (by omega)
  rw [Nat.add_zero] at h0
  unfold semiS at e ⊢
  rw [bare_isT h0]
  split at e
  · rename_i c
    rw [if_pos c]
    cases ha : aggG tk (i + 1) q with
    | bad x => rw [ha] at e; cases e
    | ok q2 nx2 =>
      rw [ha] at e
      have g1 := aggG_gt ha
      have g2 := endS_gt e
      rw [aggG_move ha (hA.sub (by omega) (by omega))]
      exact endS_move e (hA.sub (by omega) (by omega))
  · rename_i c
    rw [if_neg c]
    exact endS_move e hA
theorem headS_gt {n nx : Nat} {q : Qry} (e : headG tk n = .ok q nx) : 4 ≤ nx := by
  unfold headG at e
  split at e
  · cases e
  · split at e
    · cases e
    · split at e
      · cases hn : namesS tk n 2 [] with
        | bad x => rw [hn] at e; cases e
        | ok h nx2 => rw [hn] at e; have := namesS_gt hn; have := semiS_gt e; omega
      · have := semiS_gt e; omega
theorem headS_move {n n' nx : Nat} {q : Qry} (hn' : n ≤ n') (e : headG tk n = .ok q nx) (hA : Agr tk tk' 0 0 nx) : headG tk' n' = .ok q nx := by
  have hg := headS_gt e
  have h0 := hA 0 (by omega) (by omega)
  have h1 := hA 1 (by omega) (by omega)
  have h2 := hA 2 (by omega) (by omega)
  rw [Nat.add_zero] at h0 h1 h2
  unfold headG at e ⊢
  rw [bare_k h0, bare_t h0, bare_isT h1, bare_k h2]
  split at e
  · cases e
  · rename_i c1
    rw [if_neg c1]
    split at e
    · cases e
    · rename_i c2
      rw [if_neg c2]
      split at e
      · rename_i c3
        rw [if_pos c3]
        cases hn : namesS tk n 2 [] with
        | bad x => rw [hn] at e; cases e
        | ok h nx2 =>
          rw [hn] at e
          have g1 := namesS_gt hn
          have g2 := semiS_gt e
          rw [namesS_move hn (hA.sub (by omega) (by omega)) hn']
          exact semiS_move e (hA.sub (by omega) (by omega))
      · rename_i c3
        rw [if_neg c3]
        exact semiS_move e (hA.sub (by omega) (by omega))
end
end

/-! ### Txt -/
section

def opS (o : Int) : Str := if o = 0 then [61] else if o = 1 then [33, 61] else if o = 2 then [60] else if o = 3 then [60, 61] else if o = 4 then [62] else [62, 61]
/-- ", " and " | ". -/
def comS : Str := [44, 32]
def barS : Str := [32, 124, 32]
def joinS (by' : Str) : List Str → Str
  | [] => []
  | x :: l => x ++ l.flatMap fun y => by' ++ y
theorem joinS_snoc (by' : Str) (l : List Str) (y : Str) : joinS by' (l ++ [y]) = joinS by' l ++ (if l = [] then y else by' ++ y) := by
  cases l with
  | nil => simp [joinS]
  | cons x l => simp [joinS, List.flatMap_append]
def termS (t : Trm) : Str := if t.v = [] then textL t.c else t.v
def atomS (a : Atm) : Str := (if a.neg = true then [110, 111, 116, 32] else []) ++ (a.rel ++ [40]) ++ joinS comS (a.ts.map termS) ++ [41]
def condS (c : Cnd) : Str := comS ++ c.v ++ [32] ++ opS c.op ++ [32] ++ textL c.c
def ruleS (r : Rul) : Str := joinS comS (r.atoms.map atomS) ++ r.conds.flatMap condS
def aggS (q : Qry) : Str := if q.agg = 1 then [59, 32, 99, 111, 117, 110, 116] else if q.agg = 2 then [59, 32, 115, 117, 109, 32] ++ q.aggVar else if q.agg = 3 then [59, 32, 109, 105, 110, 32] ++ q.aggVar else if q.agg = 4 then [59, 32, 109, 97, 120, 32] ++ q.aggVar else []
def headS (q : Qry) : Str := [97, 110, 115, 40] ++ joinS comS q.head ++ aggS q ++ [41, 32, 58, 45, 32]
def keyS (k : Ky) : Str := k.v ++ (if k.desc = true then [32, 100, 101, 115, 99] else [])
def orderS (l : List Ky) : Str := if l = [] then [] else [32, 111, 114, 100, 101, 114, 32] ++ joinS comS (l.map keyS)
/-- The text of a valid query. -/
def textQ (q : Qry) : Str := headS q ++ joinS barS (q.rules.map ruleS) ++ orderS q.order
theorem rules_succ {q : Qry} {k : Nat} (h : k < q.rules.length) : joinS barS ((q.rules.take (k + 1)).map ruleS) = joinS barS ((q.rules.take k).map ruleS) ++ (if k = 0 then ruleS q.rules[k] else barS ++ ruleS q.rules[k]) := by
  rw [List.take_succ_eq_append_getElem h, List.map_append]
  show joinS barS (_ ++ [ruleS q.rules[k]]) = _
  rw [joinS_snoc]
  congr 1
  by_cases h0 : k = 0
  · subst h0; simp
  · rw [if_neg h0, if_neg]
    intro e
    rcases List.take_eq_nil_iff.1 (List.map_eq_nil_iff.1 e) with h1 | h1
    · exact h0 h1
    · rw [h1] at h; exact absurd h (by simp)
theorem order_succ {l : List Ky} {k : Nat} (h : k < l.length) : orderS (l.take (k + 1)) = orderS (l.take k) ++ (if k = 0 then [32, 111, 114, 100, 101, 114, 32] else comS) ++ keyS l[k] := by
  unfold orderS
  have h1 : l.take (k + 1) ≠ [] := by
    intro e
    have := congrArg List.length e
    simp at this
    subst this
    simp at h
  rw [if_neg h1, List.take_succ_eq_append_getElem h, List.map_append]
  show _ ++ joinS comS (_ ++ [keyS l[k]]) = _
  rw [joinS_snoc]
  by_cases h0 : k = 0
  · subst h0; simp [joinS]
  · have h2 : l.take k ≠ [] := by
      intro e
      rcases List.take_eq_nil_iff.1 e with g1 | g1
      · exact h0 g1
      · rw [g1] at h; exact absurd h (by simp)
    have h3 : (l.take k).map keyS ≠ [] := by simpa using h2
    rw [if_neg h2, if_neg h3, if_neg h0]
    simp
end
end Go.Proofs.YtnbacdmlaedppaaGreatDoor
