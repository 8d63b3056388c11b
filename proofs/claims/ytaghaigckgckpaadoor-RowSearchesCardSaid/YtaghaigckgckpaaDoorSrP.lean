/-
  PLAIN: sorted lists of rows: a sorted order of a list is one alone; insertion, removal of repeats, search. Imports nothing of the program.
-/
import Derived.Test.YtaghaigckgckpaaDoorOrd
import Derived.Test.YtaghaigckgckpaaDoorSrt
namespace Go.Proofs.YtaghaigckgckpaaDoor

def SortedR (d : List Bool) (l : List (List V)) : Prop := l.Pairwise fun a b => rowCmp d a b ≤ 0
def insS (d : List Bool) (x : List V) : List (List V) → List (List V)
  | [] => [x]
  | y :: l => if rowCmp d y x ≤ 0 then y :: insS d x l else x :: y :: l
def sortR (d : List Bool) : List (List V) → List (List V)
  | [] => []
  | x :: l => insS d x (sortR d l)
theorem insS_perm (d : List Bool) (x : List V) : ∀ l, (insS d x l).Perm (x :: l)
  | [] => List.Perm.refl _
  | y :: l => by
    unfold insS
    split
    · exact ((insS_perm d x l).cons y).trans (List.Perm.swap x y l)
    · exact List.Perm.refl _
theorem sortR_perm (d : List Bool) : ∀ l, (sortR d l).Perm l
  | [] => List.Perm.refl _
  | x :: l => (insS_perm d x _).trans ((sortR_perm d l).cons x)
theorem rc_le {d : List Bool} {a b c : List V} (h : rowCmp d a b ≤ 0) (k : rowCmp d b c ≤ 0) : rowCmp d a c ≤ 0 := by
  have := (rowCmp_ord d).trans a b c h k; omega
theorem rc_flip {d : List Bool} {a b : List V} (h : ¬ rowCmp d a b ≤ 0) : rowCmp d b a ≤ 0 := by
  have := (rowCmp_ord d).anti a b; omega
theorem insS_sorted {d : List Bool} {x : List V} : ∀ {l}, SortedR d l → SortedR d (insS d x l)
  | [], _ => List.pairwise_singleton _ _
  | y :: l, h => by
    have h1 := List.pairwise_cons.1 h
    unfold insS
    split
    · rename_i hc
      refine List.pairwise_cons.2 ⟨fun z hz => ?_, insS_sorted h1.2⟩
      rcases List.mem_cons.1 ((insS_perm d x l).mem_iff.1 hz) with e | e
      · rw [e]; exact hc
      · exact h1.1 z e
    · rename_i hc
      refine List.pairwise_cons.2 ⟨fun z hz => ?_, h⟩
      rcases List.mem_cons.1 hz with e | e
      · rw [e]; exact rc_flip hc
      · exact rc_le (rc_flip hc) (h1.1 z e)
theorem sortR_sorted (d : List Bool) : ∀ l, SortedR d (sortR d l)
  | [] => List.Pairwise.nil
  | _ :: l => insS_sorted (sortR_sorted d l)
theorem sorted_one {d : List Bool} : ∀ {l l' : List (List V)}, l.Perm l' → SortedR d l → SortedR d l' → l = l'
  | [], l', h, _, _ => (List.Perm.eq_nil h.symm).symm
  | a :: t, [], h, _, _ => absurd (List.Perm.eq_nil h) (by simp)
  | a :: t, b :: t', h, h1, h2 => by
    have p1 := List.pairwise_cons.1 h1
    have p2 := List.pairwise_cons.1 h2
    have hab : rowCmp d a b ≤ 0 := by
      rcases List.mem_cons.1 (h.symm.mem_iff.1 (List.mem_cons_self (a := b) (l := t'))) with e | e
      · rw [e]; have := (rowCmp_ord d).refl a; omega
      · exact p1.1 b e
    have hba : rowCmp d b a ≤ 0 := by
      rcases List.mem_cons.1 (h.mem_iff.1 (List.mem_cons_self (a := a) (l := t))) with e | e
      · rw [e]; have := (rowCmp_ord d).refl b; omega
      · exact p2.1 a e
    have e : a = b := (rowCmp_zero (d := d)).1 (by have := (rowCmp_ord d).anti a b; omega)
    subst e
    rw [sorted_one ((List.perm_cons a).1 h) p1.2 p2.2]
theorem sortR_one {d : List Bool} {l rows : List (List V)} (h : l.Perm rows) (hs : SortedR d l) : l = sortR d rows := sorted_one (h.trans (sortR_perm d rows).symm) hs (sortR_sorted d rows)
theorem sortR_again (d : List Bool) (l : List (List V)) : sortR d (sortR d l) = sortR d l := (sortR_one (List.Perm.refl _) (sortR_sorted d l)).symm

/-- The reference's insertion: k is where x belongs. -/
theorem ins_at {d : List Bool} {l : List (List V)} {x : List V} {k : Nat} (hs : SortedR d l) (hk : k ≤ l.length) (hi : ∀ j (h : j < l.length), k ≤ j → 0 < rowCmp d l[j] x) (lo : ∀ h : 0 < k, rowCmp d (l[k - 1]'(by omega)) x ≤ 0) :
    SortedR d (l.take k ++ x :: l.drop k) := by
  have hp := List.pairwise_iff_getElem.1 hs
  have hx1 : ∀ z ∈ l.drop k, rowCmp d x z ≤ 0 := fun z hz => by
    obtain ⟨i, hi', e⟩ := List.mem_iff_getElem.1 hz
    rw [List.getElem_drop] at e
    rw [List.length_drop] at hi'
    have := hi (k + i) (by omega) (by omega)
    rw [e] at this
    exact rc_flip (by omega)
  have hx0 : ∀ z ∈ l.take k, rowCmp d z x ≤ 0 := fun z hz => by
    obtain ⟨i, hi', e⟩ := List.mem_iff_getElem.1 hz
    rw [List.getElem_take] at e
    rw [List.length_take] at hi'
    have h0 := lo (by omega)
    by_cases c : i = k - 1
    · subst c; rw [← e]; exact h0
    · have h1 := hp i (k - 1) (by omega) (by omega) (by omega)
      rw [e] at h1
      exact rc_le h1 h0
  refine List.pairwise_append.2 ⟨hs.sublist (List.take_sublist k l), List.pairwise_cons.2 ⟨hx1, hs.sublist (List.drop_sublist k l)⟩, fun a ha b hb => ?_⟩
  rcases List.mem_cons.1 hb with e | e
  · rw [e]; exact hx0 a ha
  · exact rc_le (hx0 a ha) (hx1 b e)
theorem ins_perm {l : List (List V)} {x : List V} (k : Nat) : (l.take k ++ x :: l.drop k).Perm (l ++ [x]) := by
  refine List.perm_middle.trans ?_
  rw [List.take_append_drop]
  exact (List.perm_append_singleton x l).symm

/-- Without repeats in a row. -/
def ded (rows : List (List V)) : Nat → List (List V)
  | 0 => []
  | k + 1 => ded rows k ++ (if k = 0 ∨ ¬ rowCmp [] (rows.getD (k - 1) []) (rows.getD k []) = 0 then [rows.getD k []] else [])
theorem ded_len (rows : List (List V)) : ∀ k, (ded rows k).length ≤ k
  | 0 => Nat.le_refl _
  | k + 1 => by
    have := ded_len rows k
    unfold ded
    rw [List.length_append]
    split <;> simp <;> omega
theorem ded_yes {rows : List (List V)} {k : Nat} (hk : k < rows.length) (h : k = 0 ∨ ∃ h : k - 1 < rows.length, rows[k - 1] ≠ rows[k]) : ded rows (k + 1) = ded rows k ++ [rows[k]] := by
  have e : rows.getD k [] = rows[k] := by simp [List.getD, hk]
  have h' : k = 0 ∨ ¬ rowCmp [] (rows.getD (k - 1) []) (rows.getD k []) = 0 := by
    rcases h with h | ⟨h1, h2⟩
    · exact Or.inl h
    · right
      have e1 : rows.getD (k - 1) [] = rows[k - 1] := by simp [List.getD, h1]
      rw [e, e1, rowCmp_zero]; exact h2
  show ded rows k ++ (if k = 0 ∨ ¬ rowCmp [] (rows.getD (k - 1) []) (rows.getD k []) = 0 then [rows.getD k []] else []) = _
  rw [if_pos h', e]
theorem ded_no {rows : List (List V)} {k : Nat} (hk : k < rows.length) (h0 : 0 < k) (h : rows[k - 1] = rows[k]) : ded rows (k + 1) = ded rows k := by
  have e : rows.getD k [] = rows[k] := by simp [List.getD, hk]
  have e1 : rows.getD (k - 1) [] = rows[k - 1] := by simp [List.getD, show k - 1 < rows.length by omega]
  show ded rows k ++ (if k = 0 ∨ ¬ rowCmp [] (rows.getD (k - 1) []) (rows.getD k []) = 0 then [rows.getD k []] else []) = _
  rw [if_neg (by rw [e, e1, rowCmp_zero]; simp [h]; omega), List.append_nil]

/-- Searching. -/
def cntR (d : List Bool) (r : List V) (l : List (List V)) : Nat := l.countP fun x => decide (rowCmp d x r < 0)
def hasR (d : List Bool) (r : List V) (l : List (List V)) : Bool := l.any fun x => decide (rowCmp d x r = 0)
theorem cnt_le (d : List Bool) (r : List V) (l : List (List V)) : cntR d r l ≤ l.length := List.countP_le_length
theorem cnt_succ {d : List Bool} {r : List V} {l : List (List V)} {k : Nat} (h : k < l.length) : cntR d r (l.take (k + 1)) = cntR d r (l.take k) + if rowCmp d l[k] r < 0 then 1 else 0 := by
  unfold cntR
  rw [List.take_succ_eq_append_getElem h, List.countP_append]
  simp [List.countP_cons]
theorem has_succ {d : List Bool} {r : List V} {l : List (List V)} {k : Nat} (h : k < l.length) : hasR d r (l.take (k + 1)) = (hasR d r (l.take k) || decide (rowCmp d l[k] r = 0)) := by
  unfold hasR
  rw [List.take_succ_eq_append_getElem h, List.any_append]
  simp
theorem mono_R {d : List Bool} {r : List V} {l : List (List V)} (hs : SortedR d l) {a b : Nat} (hab : a ≤ b) (hb : b < l.length) (h : 0 ≤ rowCmp d (l[a]'(by omega)) r) : 0 ≤ rowCmp d l[b] r := by
  have hp := List.pairwise_iff_getElem.1 hs
  by_cases c : a = b
  · subst c; exact h
  · have h1 := hp a b (by omega) hb (by omega)
    have e1 := (rowCmp_ord d).anti l[b] r
    have e2 := (rowCmp_ord d).anti (l[a]'(by omega)) r
    have := rc_le (d := d) (a := r) (b := l[a]'(by omega)) (c := l[b]) (by omega) h1
    omega
theorem countP_take_drop {α : Type} (p : α → Bool) (l : List α) (m : Nat) (hm : m ≤ l.length) (h1 : ∀ x ∈ l.take m, p x = true) (h2 : ∀ x ∈ l.drop m, p x = false) : l.countP p = m := by
  rw [← List.take_append_drop m l, List.countP_append, List.countP_eq_length.2 h1, List.countP_eq_zero.2 (fun x hx => by rw [h2 x hx]; simp), List.length_take]
  omega
theorem found_at {d : List Bool} {r : List V} {l : List (List V)} {m : Nat} (hs : SortedR d l) (hm : m ≤ l.length) (lo : ∀ t (h : t < l.length), t < m → rowCmp d l[t] r < 0) (hi : ∀ t (h : t < l.length), m ≤ t → 0 ≤ rowCmp d l[t] r) :
    cntR d r l = m ∧ ∀ h : m < l.length, hasR d r l = decide (rowCmp [] l[m] r = 0) := by
  refine ⟨?_, fun h => ?_⟩
  · unfold cntR
    refine countP_take_drop _ l m hm (fun x hx => ?_) (fun x hx => ?_)
    · obtain ⟨i, hi', e⟩ := List.mem_iff_getElem.1 hx
      rw [List.getElem_take] at e
      rw [List.length_take] at hi'
      have := lo i (by omega) (by omega)
      rw [e] at this
      simp; omega
    · obtain ⟨i, hi', e⟩ := List.mem_iff_getElem.1 hx
      rw [List.getElem_drop] at e
      rw [List.length_drop] at hi'
      have := hi (m + i) (by omega) (by omega)
      rw [e] at this
      simp; omega
  · unfold hasR
    by_cases c : l[m] = r
    · rw [decide_eq_true (rowCmp_zero.2 c), List.any_eq_true]
      exact ⟨l[m], List.getElem_mem h, by simp [rowCmp_zero, c]⟩
    · rw [decide_eq_false (fun z => c (rowCmp_zero.1 z)), List.any_eq_false]
      intro x hx hz
      have hz' : x = r := (rowCmp_zero (d := d)).1 (by simpa using hz)
      obtain ⟨i, hi', e⟩ := List.mem_iff_getElem.1 hx
      have hmi : m ≤ i := by
        apply Nat.le_of_not_lt
        intro hc
        have := lo i hi' hc
        rw [e, hz', (rowCmp_ord d).refl] at this
        omega
      have hp := List.pairwise_iff_getElem.1 hs
      have h1 : rowCmp d l[m] r ≤ 0 := by
        by_cases c2 : m = i
        · subst c2; rw [e, hz']; have := (rowCmp_ord d).refl r; omega
        · have := hp m i h hi' (by omega)
          rw [e, hz'] at this; exact this
      have h2 := hi m h (Nat.le_refl _)
      exact c ((rowCmp_zero (d := d)).1 (by omega))
theorem found_end {d : List Bool} {r : List V} {l : List (List V)} (lo : ∀ t (h : t < l.length), rowCmp d l[t] r < 0) : hasR d r l = false := by
  unfold hasR
  rw [List.any_eq_false]
  intro x hx hz
  obtain ⟨i, hi', e⟩ := List.mem_iff_getElem.1 hx
  have := lo i hi'
  rw [e] at this
  simp at hz
  omega

/-- A row in memory: its header and what it holds. -/
structure El where
  A : Option Addr
  c : Nat
  r : List V
def El.val (x : El) : Value := .slice x.A x.r.length x.c
def ltE (d : List Bool) (x y : El) : Bool := decide (rowCmp d x.r y.r < 0)
def El.dum : El := ⟨none, 0, []⟩
theorem ltE_ord (d : List Bool) : Ord3 (ltE d) where
  tr x y z h1 h2 := by
    have e1 := (rowCmp_ord d).anti x.r y.r
    have e2 := (rowCmp_ord d).anti y.r z.r
    have e3 := (rowCmp_ord d).anti x.r z.r
    simp only [ltE, decide_eq_false_iff_not] at h1 h2 ⊢
    have := rc_le (d := d) (a := x.r) (b := y.r) (c := z.r) (by omega) (by omega)
    omega
  as x y h := by
    have e1 := (rowCmp_ord d).anti x.r y.r
    simp only [ltE, decide_eq_true_eq] at h
    simp only [ltE, decide_eq_false_iff_not]
    omega
theorem srt_sorted {d : List Bool} {l : List El} (h : Srt El.dum (ltE d) 0 l.length l) : SortedR d (l.map El.r) := by
  refine List.pairwise_iff_getElem.2 fun i j hi hj hij => ?_
  rw [List.length_map] at hi hj
  have := h i j (Nat.zero_le _) hij hj
  rw [nth_at hi, nth_at hj] at this
  simp only [ltE, decide_eq_false_iff_not] at this
  rw [List.getElem_map, List.getElem_map]
  have e1 := (rowCmp_ord d).anti l[i].r l[j].r
  omega
theorem srt_one {d : List Bool} {l l0 : List El} (hp : l.Perm l0) (h : Srt El.dum (ltE d) 0 l.length l) : l.map El.r = sortR d (l0.map El.r) := sortR_one (hp.map _) (srt_sorted h)
end Go.Proofs.YtaghaigckgckpaaDoor
