/-
  PLAIN: decimal numerals: their digits, their value, no two alike. Nothing of the program.
-/
import Derived.Test.YtgeapgbebbapmaaDoorPlain
namespace Go.Proofs.YtgeapgbebbapmaaDoor

/-- The number that digits spell. -/
def numVal (l : List UInt8) : Nat := l.foldl (fun a c => a * 10 + (c.toNat - 48)) 0

theorem numVal_snoc (l : List UInt8) (c : UInt8) : numVal (l ++ [c]) = numVal l * 10 + (c.toNat - 48) := by simp [numVal, List.foldl_append]

theorem digit_toNat (d : Nat) (h : d < 10) : (UInt8.ofNat (48 + d)).toNat = 48 + d := by
  simp; omega

theorem numVal_dec (u : Nat) : numVal (Lib.decDigits u) = u := by
  induction u using Nat.strongRecOn with
  | _ u ih =>
    by_cases h : u < 10
    · rw [Lib.decDigits_one h]
      have := digit_toNat u h
      simp only [numVal, List.foldl_cons, List.foldl_nil, this]; omega
    · rw [Lib.decDigits, dif_neg h, numVal_snoc, ih (u / 10) (by omega), digit_toNat (u % 10) (by omega)]; omega

theorem dec_digits (u : Nat) : ∀ c ∈ Lib.decDigits u, 48 ≤ c.toNat ∧ c.toNat ≤ 57 := by
  induction u using Nat.strongRecOn with
  | _ u ih =>
    intro c hc
    by_cases h : u < 10
    · rw [Lib.decDigits_one h] at hc
      simp only [List.mem_singleton] at hc
      subst hc
      rw [digit_toNat u h]; omega
    · rw [Lib.decDigits, dif_neg h, List.mem_append] at hc
      rcases hc with hc | hc
      · exact ih (u / 10) (by omega) c hc
      · simp only [List.mem_singleton] at hc
        subst hc
        rw [digit_toNat _ (show u % 10 < 10 by omega)]; omega

theorem dec_ne_nil (u : Nat) : Lib.decDigits u ≠ [] := by
  by_cases h : u < 10
  · rw [Lib.decDigits_one h]; simp
  · rw [Lib.decDigits, dif_neg h]; simp

theorem dec_inj {u v : Nat} (h : Lib.decDigits u = Lib.decDigits v) : u = v := by rw [← numVal_dec u, h, numVal_dec]

theorem itoa_inj {a b : Int} (h : Lib.itoa a = Lib.itoa b) : a = b := by
  unfold Lib.itoa at h
  have key : ∀ u v : Nat, (45 : UInt8) :: Lib.decDigits u ≠ Lib.decDigits v := fun u v e => by
    have := dec_digits v 45 (by rw [← e]; simp)
    simp at this
  by_cases ha : a < 0 <;> by_cases hb : b < 0
  · rw [if_pos ha, if_pos hb] at h
    injection h with _ h
    have := dec_inj h; omega
  · rw [if_pos ha, if_neg hb] at h; exact absurd h (key _ _)
  · rw [if_neg ha, if_pos hb] at h; exact absurd h.symm (key _ _)
  · rw [if_neg ha, if_neg hb] at h
    have := dec_inj h; omega

/-- The bytes of a numeral: a minus or a digit. -/
theorem itoa_bytes (n : Int) : ∀ c ∈ Lib.itoa n, c.toNat = 45 ∨ (48 ≤ c.toNat ∧ c.toNat ≤ 57) := by
  intro c hc
  unfold Lib.itoa at hc
  split at hc
  · rcases List.mem_cons.1 hc with rfl | hc
    · exact .inl rfl
    · exact .inr (dec_digits _ c hc)
  · exact .inr (dec_digits _ c hc)

theorem itoa_ne_nil (n : Int) : Lib.itoa n ≠ [] := by
  unfold Lib.itoa
  split
  · simp
  · exact dec_ne_nil _

/-- A text up to its first blank. -/
theorem split_at {x y r s : List UInt8} {d : UInt8} (hx : ∀ c ∈ x, c ≠ d) (hy : ∀ c ∈ y, c ≠ d) (h : x ++ d :: r = y ++ d :: s) : x = y ∧ r = s := by
  induction x generalizing y with
  | nil =>
    cases y with
    | nil => simp at h; exact ⟨rfl, h⟩
    | cons b y => simp at h; exact absurd h.1.symm (hy b (by simp))
  | cons a x ih =>
    cases y with
    | nil => simp at h; exact absurd h.1 (hx a (by simp))
    | cons b y =>
      simp at h
      obtain ⟨e1, e2⟩ := ih (fun c hc => hx c (by simp [hc])) (fun c hc => hy c (by simp [hc])) h.2
      exact ⟨by rw [h.1, e1], e2⟩

/-- The key of a value, of a row. -/
def keyV (v : V) : List UInt8 := Lib.itoa v.k ++ 32 :: (Lib.itoa v.n ++ 32 :: (Lib.itoa v.s.size ++ 32 :: v.s.data.toList))
def keyL (r : List V) : List UInt8 := r.flatMap keyV

theorem itoa_no32 (n : Int) : ∀ c ∈ Lib.itoa n, c ≠ 32 := fun c hc e => by
  have := itoa_bytes n c hc
  subst e
  simp at this

theorem keyV_inj {v u : V} {r s : List UInt8} (h : keyV v ++ r = keyV u ++ s) : v = u ∧ r = s := by
  obtain ⟨k, n, ⟨⟨x⟩⟩⟩ := v
  obtain ⟨k', n', ⟨⟨x'⟩⟩⟩ := u
  simp only [keyV, List.append_assoc, List.cons_append] at h
  obtain ⟨e1, h⟩ := split_at (itoa_no32 _) (itoa_no32 _) h
  obtain ⟨e2, h⟩ := split_at (itoa_no32 _) (itoa_no32 _) h
  obtain ⟨e3, h⟩ := split_at (itoa_no32 _) (itoa_no32 _) h
  have e1 := itoa_inj e1
  have e2 := itoa_inj e2
  have e3 : (x.length : Int) = x'.length := by simpa [ByteArray.size] using itoa_inj e3
  obtain ⟨e4, e5⟩ := List.append_inj h (by have : x.length = x'.length := by omega
                                           simpa using this)
  have e4 : x = x' := e4
  subst e1 e2 e4
  exact ⟨rfl, e5⟩

theorem keyV_ne_nil (v : V) : keyV v ≠ [] := by
  unfold keyV; have := itoa_ne_nil v.k; simp

theorem keyL_inj : ∀ {a b : List V}, keyL a = keyL b → a = b
  | [], [], _ => rfl
  | [], v :: b, h => by simp [keyL] at h; exact absurd h.1 (keyV_ne_nil v)
  | v :: a, [], h => by simp [keyL] at h; exact absurd h.1 (keyV_ne_nil v)
  | v :: a, u :: b, h => by
    simp only [keyL, List.flatMap_cons] at h
    obtain ⟨rfl, h'⟩ := keyV_inj h
    rw [keyL_inj (a := a) (b := b) h']

end Go.Proofs.YtgeapgbebbapmaaDoor
