/-
  PARTS of a claim, merged by segs.py: PgJ.
-/
import Derived.Test.YtnbacdmlaedppaaGreatDoorQ51
namespace Go.Proofs.YtnbacdmlaedppaaGreatDoor

/-! ### PgJ -/
section

theorem ScB.join {s r : Str} {bs rs : List Bt} {c : UInt8} (hc : whtB c = true) (h : ScB s bs) (hr : ScB r rs) : ScB (s ++ c :: r) (bs.dropLast ++ rs) := by
  obtain ⟨ts, h1, rfl⟩ := h
  obtain ⟨us, h3, rfl⟩ := hr
  have h5 := h3.shift ((s.length : Int) + 1)
  rw [← Int.add_assoc] at h5
  refine ⟨_, Sc.join hc h1 h5, ?_⟩
  rw [List.map_append, sh_bare, List.map_dropLast]
/-- Tokens that are read as a rule to their end. -/
structure RulT (ts : List Tok) (r : Rul) : Prop where
  e : Ended ts
  g : ∃ m, ruleG (tkL ts) ts.length ts.length 0 R0 = .ok r m ∧ m + 1 = ts.length
def bodyT (ts : List Tok) : List Bt := ts.dropLast.map Tok.bare
theorem gramR_rul {l : List UInt8} {ts : List Tok} {r : Rul} {a : Int} (hs : Sc l 0 ts) (h : gramR ts = (r, a, 0)) : RulT ts r := by
  refine ⟨hs.ended, ?_⟩
  unfold gramR at h
  cases hq : ruleG (tkL ts) ts.length ts.length 0 R0 with
  | bad e =>
    rw [hq] at h
    exact absurd (congrArg (fun x : Rul × Int × Int => x.2.2) h) (by show ¬ (21 : Int) = 0; decide)
  | ok q m =>
    rw [hq] at h
    unfold fullS at h
    simp only at h
    by_cases h0 : (tkL ts m).k = 0
    · rw [if_pos h0] at h
      obtain rfl : q = r := congrArg Prod.fst h
      exact ⟨m, rfl, hs.stop (ruleS_nx hs.ended hq).2 h0⟩
    · rw [if_neg h0] at h
      exact absurd (congrArg (fun x : Rul × Int × Int => x.2.2) h) (by show ¬ (21 : Int) = 0; decide)
theorem rul_at {tk : Nat → Tok} {ts : List Tok} {r : Rul} (h : RulT ts r) {n i : Nat} (hn : ts.length ≤ n) (hA : At tk i (bodyT ts)) (hc : isT (tk (i + (bodyT ts).length)) sComma = false) :
    ruleG tk n n i R0 = .ok r (i + (bodyT ts).length) := by
  obtain ⟨m, h1, h2⟩ := h.g
  have hl : (bodyT ts).length = m := by unfold bodyT; simp; omega
  have hAg : Agr (tkL ts) tk i 0 m := by
    intro k _ hk
    rw [Nat.add_comm, hA k (by omega), tkL_at (by omega)]
    unfold bodyT
    simp
  rw [hl] at hc ⊢
  have := ruleG_move (d := i) hn h1 hAg (by rw [Nat.add_comm]; exact hc) hn
  rw [Nat.zero_add, Nat.add_comm m i] at this
  exact this
theorem rules_at : ∀ (l : List (List Tok × Rul)) {tk : Nat → Tok} {n : Nat} (x : List Tok × Rul) (f i : Nat) (acc : List Rul), RulT x.1 x.2 → x.1.length ≤ n → (∀ y ∈ l, RulT y.1 y.2 ∧ y.1.length ≤ n) →
    At tk i ((bodyT x.1 ++ l.flatMap fun y => syB sBar :: bodyT y.1) ++ [enB]) → l.length < f →
    rulesS tk n f i acc = .ok (acc ++ x.2 :: l.map (·.2)) (i + (bodyT x.1 ++ l.flatMap fun y => syB sBar :: bodyT y.1).length)
  | [], tk, n, x, f + 1, i, acc, hx, hn, _, hA, _ => by
    have hA1 : At tk i (bodyT x.1 ++ [enB]) := by simpa using hA
    have h1 := at_en (u := sComma) hA1.right.head
    have h2 := at_en (u := sBar) hA1.right.head
    unfold rulesS
    rw [show (⟨[], []⟩ : Rul) = R0 from rfl, rul_at hx hn hA1.left h1.1]
    simp only
    rw [h2.1, if_neg (by decide)]
    simp
  | y :: l, tk, n, x, f + 1, i, acc, hx, hn, hy, hA, hf => by
    have hA1 : At tk i (bodyT x.1 ++ (syB sBar :: ((bodyT y.1 ++ l.flatMap fun y => syB sBar :: bodyT y.1) ++ [enB]))) := by simpa using hA
    have h1 := hA1.right.head
    unfold rulesS
    rw [show (⟨[], []⟩ : Rul) = R0 from rfl, rul_at hx hn hA1.left (by rw [at_sy h1]; decide)]
    simp only
    rw [at_sy h1, if_pos (by decide)]
    have h2 := hy y (List.mem_cons_self ..)
    rw [rules_at l y f _ (acc ++ [x.2]) h2.1 h2.2 (fun z hz => hy z (List.mem_cons_of_mem _ hz)) hA1.right.tail (by simp at hf; omega)]
    simp only [List.append_assoc, List.cons_append, List.nil_append, List.flatMap_cons, List.length_append, List.length_cons, List.map_cons]
    congr 1; omega
  | _, _, _, _, 0, _, _, _, _, _, _, hf => by omega
/-- ` | ` -/
def barL : Str := [32, 124, 32]
/-- `ans() :- ` -/
def preL : Str := [97, 110, 115, 40, 41, 32, 58, 45, 32]
theorem sb_unions : ∀ (l : List (Str × List Tok)) (x : Str × List Tok), Sc x.1 0 x.2 → (∀ y ∈ l, Sc y.1 0 y.2) →
    ScB (x.1 ++ l.flatMap fun y => barL ++ y.1) ((bodyT x.2 ++ l.flatMap fun y => syB sBar :: bodyT y.2) ++ [enB])
  | [], x, hx, _ => by
    simp only [List.flatMap_nil, List.append_nil]
    refine ⟨x.2, hx, ?_⟩
    obtain ⟨pre, b, e⟩ := hx.tail
    unfold bodyT
    rw [e]
    simp; rfl
  | y :: l, x, hx, hy => by
    have ih := sb_unions l y (hy y (List.mem_cons_self ..)) (fun z hz => hy z (List.mem_cons_of_mem _ hz))
    have h1 := ScB.join (c := 32) (by decide) ⟨x.2, hx, rfl⟩ (sb_bar (ScB.white (c := 32) (by decide) ih))
    have e1 : x.1 ++ (y :: l).flatMap (fun y => barL ++ y.1) = x.1 ++ 32 :: (124 :: (32 :: (y.1 ++ l.flatMap fun y => barL ++ y.1))) := by
      simp [barL]
    have e2 : (bodyT x.2 ++ (y :: l).flatMap fun y => syB sBar :: bodyT y.2) ++ [enB] = (x.2.map Tok.bare).dropLast ++ (syB sBar :: ((bodyT y.2 ++ l.flatMap fun y => syB sBar :: bodyT y.2) ++ [enB])) := by
      rw [show bodyT x.2 = (x.2.map Tok.bare).dropLast by unfold bodyT; rw [List.map_dropLast]]
      simp
    rw [e1, e2]
    exact h1
theorem check_union {l : List Rul} (h : ∀ r ∈ l, checkQ (rulQ r) = 0) (hn : l ≠ []) (hl : l.length ≤ 3) : checkQ ⟨[], 0, [], l, []⟩ = 0 := by
  have h6 : firstE (ruleE ⟨[], 0, [], l, []⟩) l = 0 := by
    have key : ∀ m : List Rul, (∀ r ∈ m, checkQ (rulQ r) = 0) → firstE (ruleE ⟨[], 0, [], l, []⟩) m = 0 := by
      intro m hm
      induction m with
      | nil => rfl
      | cons x m ih =>
        have h1 := firstE_zero (check_parts (hm x (List.mem_cons_self ..))).2.2.2.2.2.1 x (by simp [rulQ])
        have h2 : ruleE ⟨[], 0, [], l, []⟩ x = 0 := h1
        unfold firstE
        rw [if_pos h2]
        exact ih (fun r hr => hm r (List.mem_cons_of_mem _ hr))
    exact key l h
  unfold checkQ
  rw [if_neg hn, if_neg (by simp only; omega)]
  simp only [show headE [] = 0 from rfl, show aggE ⟨[], 0, [], l, []⟩ = 0 from rfl, h6, ne_eq, not_true, if_false]
  rfl
theorem parseR_ok {l : List UInt8} {r : Rul} {a : Int} (h : parseR (scanL l) = (r, a, 0)) : ∃ ts, Sc l 0 ts ∧ RulT ts r ∧ checkQ (rulQ r) = 0 := by
  obtain ⟨⟨ts, p, e⟩, hx⟩ : ∃ x, scanL l = x := ⟨_, rfl⟩
  rw [hx] at h
  unfold parseR at h
  simp only at h
  by_cases he : e = 0
  · subst he
    rw [if_pos rfl] at h
    by_cases h2 : (gramR ts).2.2 = 0
    · rw [if_pos h2] at h
      by_cases h3 : checkQ (rulQ (gramR ts).1) = 0
      · rw [if_pos h3] at h
        have hq : (gramR ts).1 = r := congrArg Prod.fst h
        rw [hq] at h3
        have hs := (scanL_ok hx).1
        exact ⟨ts, hs, gramR_rul (a := (gramR ts).2.1) hs (Prod.ext hq (Prod.ext rfl h2)), h3⟩
      · rw [if_neg h3] at h
        exact absurd (congrArg (fun x : Rul × Int × Int => x.2.2) h) h3
    · rw [if_neg h2] at h
      exact absurd (congrArg (fun x : Rul × Int × Int => x.2.2) h) h2
  · rw [if_neg he] at h
    exact absurd (congrArg (fun x : Rul × Int × Int => x.2.2) h) he
/-- The law in plain words. -/
theorem unions_plain (x : Str × Rul) (l : List (Str × Rul)) (h : ∀ y ∈ x :: l, ∃ a, parseR (scanL y.1) = (y.2, a, 0)) (hn : l.length ≤ 2) (hl : (preL ++ (x.1 ++ l.flatMap fun y => barL ++ y.1)).length ≤ 65536) :
    parseP (scanL (preL ++ (x.1 ++ l.flatMap fun y => barL ++ y.1))) = (⟨[], 0, [], x.2 :: l.map (·.2), []⟩, 0, 0) := by
  have key : ∀ m : List (Str × Rul), (∀ y ∈ m, ∃ a, parseR (scanL y.1) = (y.2, a, 0)) → ∃ M : List (Str × List Tok × Rul), M.map (fun z => (z.1, z.2.2)) = m ∧ ∀ z ∈ M, Sc z.1 0 z.2.1 ∧ RulT z.2.1 z.2.2 ∧ checkQ (rulQ z.2.2) = 0 := by
    intro m
    induction m with
    | nil => intro _; exact ⟨[], rfl, fun z hz => by cases hz⟩
    | cons y m ih =>
      intro hm
      obtain ⟨M, h1, h2⟩ := ih (fun z hz => hm z (List.mem_cons_of_mem _ hz))
      obtain ⟨a, ha⟩ := hm y (List.mem_cons_self ..)
      obtain ⟨ts, t1, t2, t3⟩ := parseR_ok ha
      refine ⟨(y.1, ts, y.2) :: M, by rw [List.map_cons, h1], fun z hz => ?_⟩
      rcases List.mem_cons.1 hz with rfl | hz
      · exact ⟨t1, t2, t3⟩
      · exact h2 z hz
  obtain ⟨M, hM, hok⟩ := key (x :: l) h
  match M, hM, hok with
  | [], hM, _ => cases hM
  | X :: N, hM, hok =>
    rw [List.map_cons] at hM
    injection hM with e1 e2
    subst e1 e2
    simp only [List.flatMap_map, List.map_map, List.length_map] at hl hn ⊢
    have hX := hok X (List.mem_cons_self ..)
    have hN := fun z hz => hok z (List.mem_cons_of_mem _ hz)
    have s1 := sb_unions (N.map fun z => (z.1, z.2.1)) (X.1, X.2.1) hX.1 (fun y hy => by
      obtain ⟨z, hz, rfl⟩ := List.mem_map.1 hy
      exact (hN z hz).1)
    simp only [List.flatMap_map] at s1
    have s2 := ScB.name (x := sAns) (by decide) (Stop.cons (by decide)) (sb_open (sb_shut (ScB.white (c := 32) (by decide) (sb_if s1))))
    obtain ⟨js, j1, j2⟩ := s2
    have j3 : Sc (preL ++ (X.1 ++ N.flatMap fun z => barL ++ z.1)) 0 js := j1
    rw [scanL_sc hl j3]
    obtain ⟨q, hq⟩ : ∃ q : Qry, q = ⟨[], 0, [], X.2.2 :: N.map (fun z => z.2.2), []⟩ := ⟨_, rfl⟩
    obtain ⟨B, hB⟩ : ∃ B, (bodyT X.2.1 ++ N.flatMap fun z => syB sBar :: bodyT z.2.1) = B := ⟨_, rfl⟩
    rw [hB] at j2
    have hA : At (tkL js) 0 (tksH ⟨[], 0, [], [], []⟩ ++ (B ++ [enB])) := by
      intro i hi
      rw [Nat.zero_add]
      exact tkL_bare_at j2 hi
    have hjl : js.length = 4 + (B.length + 1) := by
      have := congrArg List.length j2
      simp only [List.length_map, List.length_append, List.length_cons, List.length_nil] at this
      omega
    have hBl : N.length ≤ B.length := by
      rw [← hB, List.length_append]
      have : ∀ N : List (Str × List Tok × Rul), N.length ≤ (N.flatMap fun z => syB sBar :: bodyT z.2.1).length := by
        intro N
        induction N with
        | nil => simp
        | cons z N ih => rw [List.flatMap_cons, List.length_append]; simp only [List.length_cons]; omega
      have := this N
      omega
    have hbody : ∀ ts : List Tok, ts.length ≤ (bodyT ts).length + 1 := by intro ts; unfold bodyT; simp; omega
    have hroom : X.2.1.length ≤ js.length ∧ ∀ z ∈ N, z.2.1.length ≤ js.length := by
      have a1 := hbody X.2.1
      refine ⟨by rw [hjl, ← hB, List.length_append]; omega, fun z hz => ?_⟩
      have a2 := hbody z.2.1
      have : ∀ N : List (Str × List Tok × Rul), z ∈ N → (bodyT z.2.1).length ≤ (N.flatMap fun z => syB sBar :: bodyT z.2.1).length := by
        intro N hz
        induction N with
        | nil => cases hz
        | cons y N ih =>
          rw [List.flatMap_cons, List.length_append]
          rcases List.mem_cons.1 hz with rfl | hz
          · simp only [List.length_cons]; omega
          · have := ih hz; omega
      have := this N hz
      rw [hjl, ← hB, List.length_append]
      omega
    have m1 := headG_at (q := ⟨[], 0, [], [], []⟩) (by rfl) (n := js.length) (by simp) hA.left
    have hA2 := hA.right
    rw [Nat.zero_add] at hA2
    have m2 := rules_at (N.map fun z => (z.2.1, z.2.2)) (X.2.1, X.2.2) js.length _ [] hX.2.1 hroom.1 (fun y hy => by
      obtain ⟨z, hz, rfl⟩ := List.mem_map.1 hy
      exact ⟨(hN z hz).2.1, hroom.2 z hz⟩) (by simp only [List.flatMap_map]; rw [hB]; exact hA2) (by simp only [List.length_map]; omega)
    simp only [List.flatMap_map, List.map_map, List.nil_append] at m2
    rw [hB] at m2
    have m3 := hA2.right.head
    have hg : gramQ js = (q, 0, 0) := by
      unfold gramQ queryS
      rw [m1]
      simp only
      rw [m2]
      simp only
      rw [(at_en m3).1, if_neg (by decide)]
      unfold fullS
      simp only
      rw [if_pos (at_en (u := sOrder) m3).2, hq]
      rfl
    have hc : checkQ q = 0 := by
      rw [hq]
      refine check_union (fun r hr => ?_) (by simp) (by simp only [List.length_cons, List.length_map]; omega)
      rcases List.mem_cons.1 hr with rfl | hr
      · exact hX.2.2
      · obtain ⟨z, hz, rfl⟩ := List.mem_map.1 hr
        exact (hN z hz).2.2
    unfold parseP
    simp only
    rw [if_pos trivial, hg]
    simp only
    rw [if_pos trivial, if_pos hc, hq]
    rfl
end
end Go.Proofs.YtnbacdmlaedppaaGreatDoor
