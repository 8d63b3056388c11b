/-
  PLAIN: the document's roads for chapter 01: the spelling at the beginning of a text, numbers with a limit.
-/
import Derived.Test.YtgeapgbebbapmaaDoorLit2
namespace Go.Proofs.YtgeapgbebbapmaaDoor

theorem unq_zero {l : List UInt8} (h : (unq l).2 = 0) : unq l = (0, 0) := by
  have key : ∀ p : UInt8 × Nat, (p = (0, 0) ∨ p.2 ≠ 0) → p.2 = 0 → p = (0, 0) := fun p hp h0 => hp.elim id fun h1 => absurd h0 h1
  refine key _ ?_ h
  unfold unq
  split
  · exact .inl rfl
  · unfold unquoteL
    split
    · split
      · exact .inl rfl
      · right; simp
    · split
      · exact .inl rfl
      · split
        · right; simp
        · split
          · right; simp
          · split
            · right; simp
            · split
              · unfold unhexL
                split
                · exact .inl rfl
                · split
                  · split
                    · exact .inl rfl
                    · right; simp
                  · exact .inl rfl
              · exact .inl rfl

theorem width_found {l : List UInt8} {c : UInt8} (h : spell c <+: l) : unq l = (c, (spell c).length) := by
  obtain ⟨t, rfl⟩ := h
  exact unq_spell c t
theorem width_none {l : List UInt8} (h : ∀ k < 256, ¬ spell (UInt8.ofNat k) <+: l) : unq l = (0, 0) := by
  by_cases h0 : (unq l).2 = 0
  · exact unq_zero h0
  · obtain ⟨⟨b, n⟩, hu⟩ : ∃ p, unq l = p := ⟨_, rfl⟩
    rw [hu] at h0
    obtain ⟨e, _⟩ := unq_sound hu h0
    refine absurd ?_ (h b.toNat b.toNat_lt)
    rw [show UInt8.ofNat b.toNat = b by simp]
    exact ⟨_, e.symm⟩

theorem dec_step {acc l : List UInt8} (h : l ≠ []) : dec acc l = if (unq l).2 = 0 then none else dec (acc ++ [(unq l).1]) (l.drop (unq l).2) := by
  rw [dec, if_neg h]

/-- The loop of the document's integer: what is known behind k digits. -/
def Run (lim : Nat) (d : List UInt8) (n : Nat) (big : Bool) : Prop := (big = false → n = numVal d ∧ numVal d ≤ lim) ∧ (big = true → lim < numVal d)
theorem run_nil (lim : Nat) : Run lim [] 0 false := ⟨fun _ => ⟨rfl, Nat.zero_le _⟩, nofun⟩
theorem run_over {lim n : Nat} {d : List UInt8} {c : UInt8} (h : Run lim d n false) (hg : (lim - (c.toNat - 48)) / 10 < n) (m : Nat) (hl : c.toNat - 48 ≤ lim) : Run lim (d ++ [c]) m true := by
  obtain ⟨h1, _⟩ := h
  obtain ⟨rfl, h2⟩ := h1 rfl
  refine ⟨nofun, fun _ => ?_⟩
  rw [numVal_snoc]; omega
theorem run_digit {lim n : Nat} {d : List UInt8} {c : UInt8} (h : Run lim d n false) (hg : ¬ (lim - (c.toNat - 48)) / 10 < n) (hl : c.toNat - 48 ≤ lim) : Run lim (d ++ [c]) (n * 10 + (c.toNat - 48)) false := by
  obtain ⟨h1, _⟩ := h
  obtain ⟨rfl, h2⟩ := h1 rfl
  refine ⟨fun _ => ⟨by rw [numVal_snoc], ?_⟩, nofun⟩
  rw [numVal_snoc]; omega
theorem run_big {lim n : Nat} {d : List UInt8} {c : UInt8} (h : Run lim d n true) (m : Nat) : Run lim (d ++ [c]) m true := by
  refine ⟨nofun, fun _ => ?_⟩
  have := h.2 rfl
  rw [numVal_snoc]; omega

/-- A literal consists of printable bytes. -/
theorem spell_print (c : UInt8) : ∀ x ∈ spell c, 32 ≤ x.toNat ∧ x.toNat ≤ 126 := by
  have h : ∀ i : Fin 256, (spell (UInt8.ofNat i.val)).all (fun x => decide (32 ≤ x.toNat ∧ x.toNat ≤ 126)) = true := by decide +kernel
  have := h ⟨c.toNat, c.toNat_lt⟩
  simp only [UInt8.ofNat_toNat] at this
  intro x hx
  exact of_decide_eq_true (List.all_eq_true.1 this x hx)
theorem textL_print (v : V) : ∀ x ∈ textL v, 32 ≤ x.toNat ∧ x.toNat ≤ 126 := by
  intro x hx
  unfold textL at hx
  split at hx
  · split at hx
    · rcases itoa_bytes _ x hx with h | h <;> omega
    · unfold quoteL at hx
      rcases List.mem_cons.1 hx with rfl | hx
      · decide
      · rcases List.mem_append.1 hx with hx | hx
        · obtain ⟨c, _, hc⟩ := List.mem_flatMap.1 hx
          exact spell_print c x hc
        · obtain rfl : x = 34 := by simpa using hx
          decide
  · cases hx

theorem textL_inj {a b : V} (ha : a.valid = true) (hb : b.valid = true) (na : I64 a.n) (nb : I64 b.n) (h : textL a = textL b) : a = b := by
  have h1 := parse_text ha na
  have h2 := parse_text hb nb
  rw [h] at h1
  exact congrArg Prod.fst (h1.symm.trans h2)
end Go.Proofs.YtgeapgbebbapmaaDoor
