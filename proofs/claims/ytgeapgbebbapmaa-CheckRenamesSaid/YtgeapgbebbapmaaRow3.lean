/-
  ROWS OF STRUCTS, whatever each element's cells say: read out of memory, copied into a row of the call's own. Nothing of the program but the types.
-/
import Derived.Test.YtgeapgbebbapmaaLw21a
import Derived.ArgAppend
namespace Go.Proofs.Ytgeapgbebbapmaa
open Go.RowKit

/-- A row: each element lies in k cells that say C of it. -/
def RowC {α : Type} (C : World → α → List Value → Prop) (k : Nat) (w : World) (A : Option Addr) (l : List α) : Prop :=
  0 < l.length → ∃ b o, A = some ⟨b, o, none⟩ ∧ ∀ i (h : i < l.length), ∃ cs, C w l[i] cs ∧ cs.length = k ∧ ∀ j v, cs[j]? = some v → w.cell? ⟨b, o + i * k + j, none⟩ = some v

theorem flat_range_len {f : Nat → List Value} {k : Nat} (hf : ∀ i, (f i).length = k) (n : Nat) : ((List.range n).flatMap f).length = n * k := by
  rw [flat_len' hf, List.length_range]
theorem flat_range_at {f : Nat → List Value} {k : Nat} (hf : ∀ i, (f i).length = k) {n j : Nat} {v : Value} (h : ((List.range n).flatMap f)[j]? = some v) : ∃ i r, i < n ∧ r < k ∧ j = i * k + r ∧ (f i)[r]? = some v := by
  have hj : j < n * k := by rw [← flat_range_len hf n]; exact (List.getElem?_eq_some_iff.1 h).1
  have hk : 0 < k := by
    rcases Nat.eq_zero_or_pos k with h0 | h0
    · subst h0; simp at hj
    · exact h0
  have hi : j / k < n := Nat.div_lt_of_lt_mul (by rw [Nat.mul_comm]; exact hj)
  have hr : j % k < k := Nat.mod_lt _ hk
  have hjj : j = j / k * k + j % k := by rw [Nat.mul_comm]; exact (Nat.div_add_mod j k).symm
  refine ⟨j / k, j % k, hi, hr, hjj, ?_⟩
  rw [hjj, flat_get hf (List.range n) (j / k) (j % k) (by simpa using hi) hr] at h
  simpa using h
theorem flat_snoc (f : Nat → List Value) (n : Nat) (g : List Value) : (List.range (n + 1)).flatMap (fun i => if i < n then f i else g) = (List.range n).flatMap f ++ g := by
  rw [List.range_succ, List.flatMap_append]
  congr 1
  · have : ∀ m, m ≤ n → (List.range m).flatMap (fun i => if i < n then f i else g) = (List.range m).flatMap f := by
      intro m
      induction m with
      | zero => intro _; rfl
      | succ m ih => intro hm; rw [List.range_succ, List.flatMap_append, List.flatMap_append, ih (by omega)]; simp [show m < n by omega]
    exact this n (Nat.le_refl n)
  · simp
theorem flat_succ (f : Nat → List Value) (n : Nat) : (List.range (n + 1)).flatMap f = (List.range n).flatMap f ++ f n := by
  rw [List.range_succ, List.flatMap_append]; simp

section
variable {α : Type} {C : World → α → List Value → Prop} {k : Nat} {w w' : World} {A : Option Addr} {l : List α}
theorem RowC.nil : RowC C k w A [] := fun h => absurd h (by simp)
theorem RowC.below (hC : ∀ {w w' : World} {x : α} {cs : List Value}, Below w.heap.size w w' → C w x cs → C w' x cs) (h : RowC C k w A l) (hb : Below w.heap.size w w') : RowC C k w' A l := fun hp => by
  obtain ⟨b, o, e, hc⟩ := h hp
  refine ⟨b, o, e, fun i hi => ?_⟩
  obtain ⟨cs, h1, h2, h3⟩ := hc i hi
  exact ⟨cs, hC hb h1, h2, fun j v hv => cell_keep hb (h3 j v hv)⟩
/-- The cells, by their numbers. -/
theorem RowC.read (h : RowC C k w A l) (hp : 0 < l.length) : ∃ (b o : Nat) (f : Nat → List Value), A = some ⟨b, o, none⟩ ∧ (∀ i, (f i).length = k) ∧ (∀ i (hi : i < l.length), C w l[i] (f i)) ∧
    (∀ i (_ : i < l.length) j v, (f i)[j]? = some v → w.cell? ⟨b, o + i * k + j, none⟩ = some v) ∧ ∀ j v, ((List.range l.length).flatMap f)[j]? = some v → w.cell? (Addr.add ⟨b, o, none⟩ j) = some v := by
  obtain ⟨b, o, e, hc⟩ := h hp
  have hex : ∀ i, ∃ cs : List Value, cs.length = k ∧ ∀ hi : i < l.length, C w l[i] cs ∧ ∀ j v, cs[j]? = some v → w.cell? ⟨b, o + i * k + j, none⟩ = some v := by
    intro i
    by_cases hi : i < l.length
    · obtain ⟨cs, h1, h2, h3⟩ := hc i hi
      exact ⟨cs, h2, fun _ => ⟨h1, h3⟩⟩
    · exact ⟨List.replicate k undef, by simp, fun h => absurd h hi⟩
  refine ⟨b, o, fun i => Classical.choose (hex i), e, fun i => (Classical.choose_spec (hex i)).1, fun i hi => ((Classical.choose_spec (hex i)).2 hi).1, fun i hi => ((Classical.choose_spec (hex i)).2 hi).2, fun j v hv => ?_⟩
  obtain ⟨i, r, hi, hr, hj, hv⟩ := flat_range_at (fun i => (Classical.choose_spec (hex i)).1) hv
  have := ((Classical.choose_spec (hex i)).2 hi).2 r v hv
  have e2 : Addr.add ⟨b, o, none⟩ j = ⟨b, o + i * k + r, none⟩ := by
    unfold Addr.add
    by_cases h0 : j = 0
    · subst h0; simp; omega
    · simp [h0]; omega
  rw [e2]; exact this
/-- A row of the call's own whose cells say C of the elements. -/
theorem own_rowC {B : Nat} {e : TypeId} {u : Value} {f : Nat → List Value} (hf : ∀ i, (f i).length = k) (h : w.ownsRow B e k u l.length ((List.range l.length).flatMap f)) (hC : ∀ i (hi : i < l.length), C w l[i] (f i)) : ∃ A c, u = .slice A l.length c ∧ RowC C k w A l ∧ l.length ≤ c := by
  have h' : w.ownsRow B e k u (List.range l.length).length ((List.range l.length).flatMap f) := by rw [List.length_range]; exact h
  obtain ⟨A, c, h1, h2, h3⟩ := own_gen hf h'
  rw [List.length_range] at h1 h2
  refine ⟨A, c, h1, fun hp => ?_, h2⟩
  obtain ⟨b, o, e, hc⟩ := h3 (by rw [List.length_range]; exact hp)
  refine ⟨b, o, e, fun i hi => ⟨f i, hC i hi, hf i, fun j v hv => ?_⟩⟩
  exact hc i (by simpa using hi) j v (by simpa using hv)
end

/-- A rule's cells; a schema's; an atom's. -/
def RulC (w : World) (r : Rul) (cs : List Value) : Prop := ∃ T c T' c', cs = [.slice T r.atoms.length c, .slice T' r.conds.length c'] ∧ AtmsAt w T r.atoms ∧ CndsAt w T' r.conds ∧ r.atoms.length ≤ c ∧ r.conds.length ≤ c' ∧ r.atoms.length ≤ 9223372036854775807 ∧ r.conds.length ≤ 9223372036854775807
def SchC (w : World) (s : Sch) (cs : List Value) : Prop := ∃ T c, cs = [.string ⟨s.name.toArray⟩, .slice T s.kinds.length c] ∧ KdsAt w T s.kinds ∧ s.kinds.length ≤ c ∧ s.kinds.length ≤ 9223372036854775807
def AtmC (w : World) (a : Atm) (cs : List Value) : Prop := ∃ T c, cs = [.bool a.neg, .string ⟨a.rel.toArray⟩, .slice T a.ts.length c] ∧ TrmsAt w T a.ts ∧ a.ts.length ≤ c ∧ a.ts.length ≤ 9223372036854775807
section
variable {w w' : World} {A : Option Addr} {cs : List Value}
theorem RulC.below {r : Rul} (hb : Below w.heap.size w w') (h : RulC w r cs) : RulC w' r cs := let ⟨T, c, T', c', h1, h2, h3, h4⟩ := h; ⟨T, c, T', c', h1, h2.below hb, h3.below hb, h4⟩
theorem SchC.below {s : Sch} (hb : Below w.heap.size w w') (h : SchC w s cs) : SchC w' s cs := let ⟨T, c, h1, h2, h3⟩ := h; ⟨T, c, h1, h2.below hb, h3⟩
theorem AtmC.below {a : Atm} (hb : Below w.heap.size w w') (h : AtmC w a cs) : AtmC w' a cs := let ⟨T, c, h1, h2, h3⟩ := h; ⟨T, c, h1, h2.below hb, h3⟩
theorem RulC.one {r : Rul} (h : RulC w r cs) : ∀ v ∈ cs, v.oneCell' = true := by
  obtain ⟨T, c, T', c', rfl, _⟩ := h
  intro v hv
  simp only [List.mem_cons, List.not_mem_nil, or_false] at hv
  rcases hv with rfl | rfl <;> rfl
theorem SchC.one {s : Sch} (h : SchC w s cs) : ∀ v ∈ cs, v.oneCell' = true := by
  obtain ⟨T, c, rfl, _⟩ := h
  intro v hv
  simp only [List.mem_cons, List.not_mem_nil, or_false] at hv
  rcases hv with rfl | rfl <;> rfl
theorem AtmC.one {a : Atm} (h : AtmC w a cs) : ∀ v ∈ cs, v.oneCell' = true := by
  obtain ⟨T, c, rfl, _⟩ := h
  intro v hv
  simp only [List.mem_cons, List.not_mem_nil, or_false] at hv
  rcases hv with rfl | rfl | rfl <;> rfl
theorem flat_one {f : Nat → List Value} {n : Nat} (h : ∀ i, i < n → ∀ v ∈ f i, v.oneCell' = true) : ∀ u ∈ (List.range n).flatMap f, u.oneCell' = true := by
  intro u hu
  obtain ⟨i, hi, hu⟩ := List.mem_flatMap.1 hu
  exact h i (List.mem_range.1 hi) u hu
theorem rulsC {l : List Rul} : RulsAt w A l ↔ RowC RulC 2 w A l := by
  constructor
  · intro h hp
    obtain ⟨b, o, e, hc⟩ := h hp
    refine ⟨b, o, e, fun i hi => ?_⟩
    obtain ⟨T, c, T', c', h0, h1, h2⟩ := hc i hi
    refine ⟨_, ⟨T, c, T', c', rfl, h2⟩, rfl, fun j v hv => ?_⟩
    match j, hv with
    | 0, hv => injection hv with hv; subst hv; exact h0
    | 1, hv => injection hv with hv; subst hv; exact h1
  · intro h hp
    obtain ⟨b, o, e, hc⟩ := h hp
    refine ⟨b, o, e, fun i hi => ?_⟩
    obtain ⟨cs, ⟨T, c, T', c', rfl, h2⟩, _, h3⟩ := hc i hi
    exact ⟨T, c, T', c', h3 0 _ rfl, h3 1 _ rfl, h2⟩
theorem schsC {l : List Sch} : SchsAt w A l ↔ RowC SchC 2 w A l := by
  constructor
  · intro h hp
    obtain ⟨b, o, e, hc⟩ := h hp
    refine ⟨b, o, e, fun i hi => ?_⟩
    obtain ⟨T, c, h0, h1, h2⟩ := hc i hi
    refine ⟨_, ⟨T, c, rfl, h2⟩, rfl, fun j v hv => ?_⟩
    match j, hv with
    | 0, hv => injection hv with hv; subst hv; exact h0
    | 1, hv => injection hv with hv; subst hv; exact h1
  · intro h hp
    obtain ⟨b, o, e, hc⟩ := h hp
    refine ⟨b, o, e, fun i hi => ?_⟩
    obtain ⟨cs, ⟨T, c, rfl, h2⟩, _, h3⟩ := hc i hi
    exact ⟨T, c, h3 0 _ rfl, h3 1 _ rfl, h2⟩
theorem atmsC {l : List Atm} : AtmsAt w A l ↔ RowC AtmC 3 w A l := by
  constructor
  · intro h hp
    obtain ⟨b, o, e, hc⟩ := h hp
    refine ⟨b, o, e, fun i hi => ?_⟩
    obtain ⟨T, c, h0, h1, h2, h3⟩ := hc i hi
    refine ⟨_, ⟨T, c, rfl, h3⟩, rfl, fun j v hv => ?_⟩
    match j, hv with
    | 0, hv => injection hv with hv; subst hv; exact h0
    | 1, hv => injection hv with hv; subst hv; exact h1
    | 2, hv => injection hv with hv; subst hv; exact h2
  · intro h hp
    obtain ⟨b, o, e, hc⟩ := h hp
    refine ⟨b, o, e, fun i hi => ?_⟩
    obtain ⟨cs, ⟨T, c, rfl, h2⟩, _, h3⟩ := hc i hi
    exact ⟨T, c, h3 0 _ rfl, h3 1 _ rfl, h3 2 _ rfl, h2⟩
end
theorem infoRul : (Try.prog.info? 46).map (fun i => (i.zero, i.size, i.bytes)) = some (some (.agg #[.slice none 0 0, .slice none 0 0]), 2, 48) := by kernel_rfl
theorem infoSchA : (Try.prog.info? 61).map (fun i => (i.zero, i.size, i.bytes)) = some (some (.agg #[.string ⟨#[]⟩, .slice none 0 0]), 2, 40) := by kernel_rfl
theorem infoAtmA : (Try.prog.info? 51).map (fun i => (i.zero, i.size, i.bytes)) = some (some (.agg #[.bool false, .string ⟨#[]⟩, .slice none 0 0]), 3, 48) := by kernel_rfl
end Go.Proofs.Ytgeapgbebbapmaa
