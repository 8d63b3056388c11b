/-
  PARTS of a claim, merged by segs.py: CwRf5.
-/
import Derived.Test.YtggfcdhkgldbfaaD45
namespace Go.Proofs.Ytggfcdhkgldbfaa
set_option linter.unusedSimpArgs false
set_option linter.unusedVariables false

/-! ### CwRf5 -/
section
set_option linter.unusedSimpArgs false
open Go Go.Conc Go.RowKit Go.ConcR.Gen Cw
open Go.ConcN (sumTo upd upd_same upd_ne sumTo_upd sumTo_congr le_sumTo)

theorem wfold_ne {n c : Nat} (hc : c ≠ 0) : ∀ l : List Int, wfold n c l = c
  | [] => rfl
  | x :: l => by
    show wfold n (wst n c x) l = c
    rw [show wst n c x = c by unfold wst; rw [if_neg (fun h => hc h.1)]]
    exact wfold_ne hc l
theorem wfold_bad {n : Nat} : ∀ l : List Int, (∃ x ∈ l, x < 0 ∨ (n : Int) ≤ x) → wfold n 0 l = 3
  | [], h => by obtain ⟨_, h, _⟩ := h; simp at h
  | x :: l, h => by
    show wfold n (wst n 0 x) l = 3
    by_cases hx : x < 0 ∨ (n : Int) ≤ x
    · rw [show wst n 0 x = 3 by unfold wst; rw [if_pos ⟨rfl, hx⟩]]
      exact wfold_ne (by decide) l
    · rw [show wst n 0 x = 0 by unfold wst; rw [if_neg (fun h => hx h.2)]]
      obtain ⟨y, hy, hb⟩ := h
      rcases List.mem_cons.1 hy with rfl | hy
      · exact absurd hb hx
      · exact wfold_bad l ⟨y, hy, hb⟩
theorem wfold_ok {n : Nat} : ∀ l : List Int, (∀ x ∈ l, 0 ≤ x ∧ x < (n : Int)) → wfold n 0 l = 0
  | [], _ => rfl
  | x :: l, h => by
    show wfold n (wst n 0 x) l = 0
    have := h x (by simp)
    rw [show wst n 0 x = 0 by unfold wst; rw [if_neg (fun h => by omega)]]
    exact wfold_ok l fun y hy => h y (by simp [hy])
theorem nats_of : ∀ (l : List Int) (n : Nat), (∀ x ∈ l, 0 ≤ x ∧ x < (n : Int)) → ∃ ps : List Nat, intv l = ints ps ∧ ps.length = l.length ∧ ∀ i ∈ ps, i < n
  | [], _, _ => ⟨[], rfl, rfl, by simp⟩
  | x :: l, n, h => by
    obtain ⟨ps, h1, h2, h3⟩ := nats_of l n fun y hy => h y (by simp [hy])
    have := h x (by simp)
    refine ⟨x.toNat :: ps, ?_, by simp [h2], fun i hi => ?_⟩
    · simp only [intv, ints, List.map_cons] at h1 ⊢
      rw [h1, Int.toNat_of_nonneg this.1]
    · rcases List.mem_cons.1 hi with rfl | hi
      · omega
      · exact h3 i hi
theorem bad_or (l : List Int) (n : Nat) : (∃ x ∈ l, x < 0 ∨ (n : Int) ≤ x) ∨ ∀ x ∈ l, 0 ≤ x ∧ x < (n : Int) := by
  by_cases h : ∃ x ∈ l, x < 0 ∨ (n : Int) ≤ x
  · exact .inl h
  · refine .inr fun x hx => ?_
    have : ¬ (x < 0 ∨ (n : Int) ≤ x) := fun hb => h ⟨x, hx, hb⟩
    omega

/-- Each task yields once. -/
abbrev tmF (n k : Nat) : Nat := if k < n then 1 else 0
section
variable {W : World} {sb n : Nat}
/-- As many events as tasks that have yielded. -/
def JL (n : Nat) (en : Nat → Bool) (loc : Nat → LamD) (e : Nat) : Prop := e = sumTo n (fun k => posD (loc k)) ∧ ∀ k, k < n → posD (loc k) ≤ 1 ∧ (en k = true → posD (loc k) = 1)
theorem jl_yield {en : Nat → Bool} {loc : Nat → LamD} {e k v : Nat} (hk : k < n) (h : JL n en loc e) (hp : posD (loc k) < 1) (he : en k = false) : JL n en (upd loc k (posD (loc k), some v)) (e + 1) := by
  obtain ⟨h1, h2⟩ := h
  have e1 : posD (posD (loc k), some v) = posD (loc k) + 1 := rfl
  refine ⟨?_, fun j hj => ?_⟩
  · have := sumTo_upd loc (posD (loc k), some v) posD hk
    omega
  · by_cases ej : j = k
    · subst ej
      rw [upd_same, e1]
      exact ⟨by omega, fun h => by rw [he] at h; cases h⟩
    · rw [upd_ne _ _ ej]
      exact h2 j hj
theorem jl_end {en : Nat → Bool} {loc : Nat → LamD} {e k : Nat} (h : JL n en loc e) (hp : ¬ posD (loc k) < 1) : JL n (upd en k true) loc e := by
  obtain ⟨h1, h2⟩ := h
  refine ⟨h1, fun j hj => ⟨(h2 j hj).1, fun h' => ?_⟩⟩
  by_cases ej : j = k
  · subst ej
    have := (h2 j hj).1
    omega
  · rw [upd_ne _ _ ej] at h'
    exact (h2 j hj).2 h'
def JD (n : Nat) (s : Sst (addersT W sb (tmF n) n)) : Prop := JL n s.en s.loc s.E.length
theorem jd_step {s : Sst (addersT W sb (tmF n) n)} {k : Nat} (hk : k < n) (h : JD n s) : JD n ((addersT W sb (tmF n) n).step k s) := by
  have h' : JL n s.en s.loc s.E.length := h
  unfold Tasks.step
  cases he : s.en k with
  | true => exact h
  | false =>
    simp only [Bool.false_eq_true, if_false]
    have hn : (addersT W sb (tmF n) n).next k (s.loc k) s.m = nextD (tmF n k) (s.loc k) s.m := rfl
    rw [hn]
    unfold nextD
    have ht : tmF n k = 1 := by simp [tmF, hk]
    rw [ht]
    by_cases hp : posD (s.loc k) < 1
    · rw [if_pos hp]
      have := jl_yield (v := valD (s.loc k) s.m) hk h' hp he
      unfold JD
      show JL n _ _ (s.E ++ [_]).length
      rw [List.length_append]
      exact this
    · rw [if_neg hp]
      exact jl_end (k := k) h' hp
theorem jd_itr {k : Nat} (hk : k < n) : ∀ (f : Nat) {s : Sst (addersT W sb (tmF n) n)}, JD n s → JD n (itr ((addersT W sb (tmF n) n).step k) f s)
  | 0, _, h => h
  | f + 1, _, h => jd_itr hk f (jd_step hk h)
theorem jd_picks : ∀ (ps : List Nat) {s : Sst (addersT W sb (tmF n) n)}, (∀ i ∈ ps, i < n) → JD n s → JD n (ps.foldl (fun s k => (addersT W sb (tmF n) n).step k s) s)
  | [], _, _, h => h
  | p :: ps, _, hp, h => jd_picks ps (fun i hi => hp i (by simp [hi])) (jd_step (hp p (by simp)) h)
theorem jd_drains {N₀ : Nat} {Sh0 : Loc → Prop} (O : TasksOk (addersT W sb (tmF n) n) N₀ Sh0) : ∀ (l : List Nat) {s : Sst (addersT W sb (tmF n) n)}, (∀ i ∈ l, i < n) → JD n s → JD n ((addersT W sb (tmF n) n).drains l s) ∧ (∀ k, (k ∈ l ∨ s.en k = true) → ((addersT W sb (tmF n) n).drains l s).en k = true)
  | [], s, _, h => ⟨h, fun k hk => by rcases hk with hk | hk; · simp at hk
                                      · exact hk⟩
  | p :: l, s, hl, h => by
    obtain ⟨h1, h2⟩ := jd_drains O l (s := (addersT W sb (tmF n) n).drain p s) (fun i hi => hl i (by simp [hi])) (jd_itr (hl p (by simp)) _ h)
    refine ⟨h1, fun k hk => h2 k ?_⟩
    rcases hk with hk | hk
    · rcases List.mem_cons.1 hk with rfl | hk
      · exact .inr (itr_ended (c := ⟨[], 0, 0, 0, N₀, 0, 0, fun _ => False⟩) (Sh0 := Sh0) O k _ s (.inl (by omega)))
      · exact .inl hk
    · exact .inr (itr_keep p k _ s hk)
theorem sum_posD0 : ∀ j, sumTo j (fun _ => posD ((0, none) : LamD)) = 0
  | 0 => rfl
  | j + 1 => by rw [sumTo, sum_posD0 j]; rfl
theorem sum_const {f : Nat → Nat} {c : Nat} : ∀ j, (∀ k, k < j → f k = c) → sumTo j f = j * c
  | 0, _ => by simp [sumTo]
  | j + 1, h => by rw [sumTo, sum_const j fun k hk => h k (by omega), h j (by omega), Nat.succ_mul]
/-- As many events as tasks. -/
theorem fin_len {N₀ : Nat} {Sh0 : Loc → Prop} (O : TasksOk (addersT W sb (tmF n) n) N₀ Sh0) {ps : List Nat} (hp : ∀ i ∈ ps, i < n) (m0 : Nat) : ((addersT W sb (tmF n) n).fin m0 n ps).E.length = n := by
  obtain ⟨⟨h1, h2⟩, h3⟩ := jd_drains O (List.range' 0 n) (s := ps.foldl (fun s k => (addersT W sb (tmF n) n).step k s) ((addersT W sb (tmF n) n).s0 m0)) (fun i hi => by
    have := List.mem_range'.1 hi
    omega) (jd_picks ps hp ⟨(sum_posD0 n).symm, fun k _ => ⟨Nat.zero_le _, fun h => by cases h⟩⟩)
  unfold Tasks.fin
  rw [h1, sum_const n (c := 1) fun k hk => (h2 k hk).2 (h3 k (.inl (by simp [List.mem_range']; exact hk)))]
  omega
end
end
end Go.Proofs.Ytggfcdhkgldbfaa
