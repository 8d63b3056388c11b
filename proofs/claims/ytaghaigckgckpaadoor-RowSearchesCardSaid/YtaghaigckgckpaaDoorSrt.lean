/-
  PLAIN: lists by place: swaps, insertion, rotation, merging. Imports nothing of the program.
-/
import Derived.Test.YtaghaigckgckpaaDoorKit
namespace Go.Proofs.YtaghaigckgckpaaDoor

section
variable {α : Type} {d : α} {lt : α → α → Bool} {l l' l'' : List α}
def nth (d : α) (l : List α) (k : Nat) : α := l.getD k d
def swp (d : α) (l : List α) (i j : Nat) : List α := (l.set i (nth d l j)).set j (nth d l i)
theorem nth_at {k : Nat} (h : k < l.length) : nth d l k = l[k] := by unfold nth; simp [h]
theorem swp_len (d : α) (l : List α) (i j : Nat) : (swp d l i j).length = l.length := by simp [swp]
theorem nth_swp {i j : Nat} (hi : i < l.length) (hj : j < l.length) (k : Nat) : nth d (swp d l i j) k = if k = i then nth d l j else if k = j then nth d l i else nth d l k := by
  unfold swp nth
  rw [List.getD_eq_getElem?_getD, List.getElem?_set, List.getElem?_set, List.length_set]
  by_cases h1 : k = i
  · subst h1
    by_cases h2 : j = k
    · subst h2; simp [hi]
    · simp [h2, hi]
  · by_cases h2 : k = j
    · subst h2; simp [h1, hj, hi]
    · simp [h1, h2, Ne.symm h1, Ne.symm h2]
theorem swp_perm {i j : Nat} (hi : i < l.length) (hj : j < l.length) : (swp d l i j).Perm l := by
  unfold swp
  rw [nth_at hi, nth_at hj]
  exact List.set_set_perm hi hj
/-- l' is l with the places from a to b in another order. -/
def Pm (d : α) (a b : Nat) (l l' : List α) : Prop := l'.Perm l ∧ l'.length = l.length ∧ ∃ f : Nat → Nat, (∀ k, a ≤ k → k < b → a ≤ f k ∧ f k < b) ∧ (∀ k, ¬ (a ≤ k ∧ k < b) → f k = k) ∧ ∀ k, nth d l' k = nth d l (f k)
theorem Pm.refl (d : α) (a b : Nat) (l : List α) : Pm d a b l l := ⟨List.Perm.refl _, rfl, id, fun _ h h' => ⟨h, h'⟩, fun _ _ => rfl, fun _ => rfl⟩
theorem Pm.trans {a b : Nat} (h : Pm d a b l l') (k : Pm d a b l' l'') : Pm d a b l l'' := by
  obtain ⟨h1, h2, f, h3, h4, h5⟩ := h
  obtain ⟨k1, k2, g, k3, k4, k5⟩ := k
  refine ⟨k1.trans h1, k2.trans h2, fun x => f (g x), fun x hx hx' => ?_, fun x hx => ?_, fun x => ?_⟩
  · obtain ⟨y1, y2⟩ := k3 x hx hx'
    exact h3 _ y1 y2
  · show f (g x) = x
    rw [k4 x hx, h4 x hx]
  · rw [k5, h5]
theorem Pm.mono {a b a' b' : Nat} (h : Pm d a b l l') (ha : a' ≤ a) (hb : b ≤ b') : Pm d a' b' l l' := by
  obtain ⟨h1, h2, f, h3, h4, h5⟩ := h
  refine ⟨h1, h2, f, fun x hx hx' => ?_, fun x hx => h4 x (by omega), h5⟩
  by_cases hc : a ≤ x ∧ x < b
  · have := h3 x hc.1 hc.2; omega
  · rw [h4 x hc]; omega
theorem Pm.swp {a b i j : Nat} (hi : i < l.length) (hj : j < l.length) (h1 : a ≤ i) (h2 : i < b) (h3 : a ≤ j) (h4 : j < b) : Pm d a b l (swp d l i j) := by
  refine ⟨swp_perm hi hj, swp_len .., fun k => if k = i then j else if k = j then i else k, fun k hk hk' => ?_, fun k hk => ?_, fun k => ?_⟩
  · show a ≤ (if k = i then j else if k = j then i else k) ∧ (if k = i then j else if k = j then i else k) < b
    split
    · exact ⟨h3, h4⟩
    · split
      · exact ⟨h1, h2⟩
      · exact ⟨hk, hk'⟩
  · show (if k = i then j else if k = j then i else k) = k
    rw [if_neg (by omega), if_neg (by omega)]
  · rw [nth_swp hi hj]
    by_cases g1 : k = i
    · simp [g1]
    · by_cases g2 : k = j
      · subst g2; simp [g1]
      · simp [g1, g2]
theorem Pm.out {a b : Nat} (h : Pm d a b l l') {k : Nat} (hk : ¬ (a ≤ k ∧ k < b)) : nth d l' k = nth d l k := by
  obtain ⟨_, _, f, _, h4, h5⟩ := h
  rw [h5, h4 k hk]
theorem Pm.src {a b : Nat} (h : Pm d a b l l') {k : Nat} (hk : a ≤ k) (hk' : k < b) : ∃ m, a ≤ m ∧ m < b ∧ nth d l' k = nth d l m := by
  obtain ⟨_, _, f, h3, _, h5⟩ := h
  exact ⟨f k, (h3 k hk hk').1, (h3 k hk hk').2, h5 k⟩
/-- A strict order whose ties are alike. -/
structure Ord3 (lt : α → α → Bool) : Prop where
  tr : ∀ x y z, lt y x = false → lt z y = false → lt z x = false
  as : ∀ x y, lt x y = true → lt y x = false
theorem Ord3.irr (h : Ord3 lt) (x : α) : lt x x = false := by
  cases e : lt x x with
  | false => rfl
  | true => have := h.as x x e; rw [e] at this; exact this
/-- Sorted from a to b. -/
def Srt (d : α) (lt : α → α → Bool) (a b : Nat) (l : List α) : Prop := ∀ p q, a ≤ p → p < q → q < b → lt (nth d l q) (nth d l p) = false
theorem Srt.le (o : Ord3 lt) {a b : Nat} (h : Srt d lt a b l) {p q : Nat} (hp : a ≤ p) (hpq : p ≤ q) (hq : q < b) : lt (nth d l q) (nth d l p) = false := by
  by_cases e : p = q
  · subst e; exact o.irr _
  · exact h p q hp (by omega) hq
theorem Srt.mono {a b a' b' : Nat} (h : Srt d lt a b l) (ha : a ≤ a') (hb : b' ≤ b) : Srt d lt a' b' l := fun p q h1 h2 h3 => h p q (by omega) h2 (by omega)
theorem Srt.out {a b u v : Nat} (h : Srt d lt a b l) (hp : Pm d u v l l') (hd : b ≤ u ∨ v ≤ a) : Srt d lt a b l' := fun p q h1 h2 h3 => by
  rw [hp.out (by omega), hp.out (by omega)]; exact h p q h1 h2 h3
theorem Srt.one (a : Nat) (l : List α) : Srt d lt a (a + 1) l := fun p q _ _ _ => by omega
/-- The inner loop of the insertion: what is sorted but for the place j. -/
def InsI (d : α) (lt : α → α → Bool) (a i j : Nat) (l : List α) : Prop := ∀ p q, a ≤ p → p < q → q ≤ i → q ≠ j → lt (nth d l q) (nth d l p) = false
theorem InsI.start {a i : Nat} (h : Srt d lt a i l) : InsI d lt a i i l := fun p q h1 h2 h3 h4 => h p q h1 h2 (by omega)
theorem InsI.step (o : Ord3 lt) {a i j : Nat} (h : InsI d lt a i j l) (hj : a < j) (hji : j ≤ i) (hi : i < l.length) (hlt : lt (nth d l j) (nth d l (j - 1)) = true) : InsI d lt a i (j - 1) (swp d l j (j - 1)) := by
  intro p q h1 h2 h3 h4
  rw [nth_swp (by omega) (by omega), nth_swp (by omega) (by omega), if_neg h4]
  by_cases q1 : q = j
  · rw [if_pos q1]
    by_cases p1 : p = j - 1
    · rw [if_neg (by omega), if_pos p1]; exact o.as _ _ hlt
    · rw [if_neg (by omega), if_neg p1]; exact h p (j - 1) h1 (by omega) (by omega) (by omega)
  · rw [if_neg q1]
    by_cases p1 : p = j
    · rw [if_pos p1]; exact h (j - 1) q (by omega) (by omega) h3 q1
    · rw [if_neg p1]
      by_cases p2 : p = j - 1
      · rw [if_pos p2]; exact h j q (by omega) (by omega) h3 q1
      · rw [if_neg p2]; exact h p q h1 h2 h3 q1
theorem InsI.fin (o : Ord3 lt) {a i j : Nat} (h : InsI d lt a i j l) (hj : a ≤ j) (hji : j ≤ i) (he : j = a ∨ lt (nth d l j) (nth d l (j - 1)) = false) : Srt d lt a (i + 1) l := by
  intro p q h1 h2 h3
  by_cases q1 : q = j
  · subst q1
    rcases he with e | e
    · omega
    · by_cases p1 : p = q - 1
      · rw [p1]; exact e
      · exact o.tr _ _ _ (h p (q - 1) h1 (by omega) (by omega) (by omega)) e
  · exact h p q h1 h2 (by omega) q1
/-- What a rotation lays at a place: left i, right j places about m. -/
def rotF (f : Nat → α) (m i j t : Nat) : α := if m - i ≤ t ∧ t < m - i + j then f (t + i) else if m - i + j ≤ t ∧ t < m + j then f (t - j) else f t
/-- Swapping ranges. -/
def swrF (f : Nat → α) (a b n t : Nat) : α := if a ≤ t ∧ t < a + n then f (t - a + b) else if b ≤ t ∧ t < b + n then f (t - b + a) else f t
theorem rot_left {f : Nat → α} {m i j t : Nat} (hi : i ≤ m) (h : j < i) (hj : 0 < j) : rotF (swrF f (m - i) m j) m (i - j) j t = rotF f m i j t := by
  unfold rotF swrF
  repeat' split
  all_goals first | rfl | (exfalso; omega) | (congr 1; omega)
theorem rot_right {f : Nat → α} {m i j t : Nat} (hi : i ≤ m) (h : i < j) (h0 : 0 < i) : rotF (swrF f (m - i) (m + j - i) i) m i (j - i) t = rotF f m i j t := by
  unfold rotF swrF
  repeat' split
  all_goals first | rfl | (exfalso; omega) | (congr 1; omega)
theorem rot_end {f : Nat → α} {m i t : Nat} (hi : i ≤ m) : swrF f (m - i) m i t = rotF f m i i t := by
  unfold rotF swrF
  repeat' split
  all_goals first | rfl | (exfalso; omega) | (congr 1; omega)

/-- Moving one place right, step by step: x from a to k. -/
def sftF (f : Nat → α) (a k t : Nat) : α := if a ≤ t ∧ t < k then f (t + 1) else if t = k then f a else f t
theorem sft_step {f g : Nat → α} {a k t : Nat} (h : ∀ t, g t = sftF f a k t) (hk : a ≤ k) : (if t = k then g (k + 1) else if t = k + 1 then g k else g t) = sftF f a (k + 1) t := by
  rw [h, h, h]
  unfold sftF
  repeat' split
  all_goals first | rfl | (exfalso; omega) | (congr 1; omega)
/-- Moving one place left: x from m to k. -/
def sfdF (f : Nat → α) (m k t : Nat) : α := if k < t ∧ t ≤ m then f (t - 1) else if t = k then f m else f t
theorem sfd_step {f g : Nat → α} {m k t : Nat} (h : ∀ t, g t = sfdF f m k t) (hk : k ≤ m) (h0 : 0 < k) : (if t = k then g (k - 1) else if t = k - 1 then g k else g t) = sfdF f m (k - 1) t := by
  rw [h, h, h]
  unfold sfdF
  repeat' split
  all_goals first | rfl | (exfalso; omega) | (congr 1; omega)
/-- One element merged into the sorted rest behind it: i is where it belongs. -/
theorem merge_one (o : Ord3 lt) {a i b : Nat} (hs : Srt d lt (a + 1) b l) (h1 : a + 1 ≤ i) (_hib : i ≤ b) (hl : ∀ k, a + 1 ≤ k → k < i → lt (nth d l k) (nth d l a) = true) (hr : ∀ k, i ≤ k → k < b → lt (nth d l k) (nth d l a) = false) (he : ∀ t, nth d l' t = sftF (nth d l) a (i - 1) t) : Srt d lt a b l' := by
  intro p q hp hpq hq
  rw [he, he]
  unfold sftF
  by_cases c1 : q < i - 1
  · rw [if_pos ⟨by omega, c1⟩, if_pos ⟨hp, by omega⟩]
    exact hs _ _ (by omega) (by omega) (by omega)
  · by_cases c2 : q = i - 1
    · rw [if_neg (by omega), if_pos c2, if_pos ⟨hp, by omega⟩]
      exact o.as _ _ (hl (p + 1) (by omega) (by omega))
    · rw [if_neg (by omega), if_neg c2]
      by_cases c3 : p < i - 1
      · rw [if_pos ⟨hp, c3⟩]; exact hs _ _ (by omega) (by omega) hq
      · by_cases c4 : p = i - 1
        · rw [if_neg (by omega), if_pos c4]; exact hr q (by omega) hq
        · rw [if_neg (by omega), if_neg c4]; exact hs _ _ (by omega) hpq hq
/-- .. into the sorted rest ahead of it. -/
theorem merge_last (o : Ord3 lt) {a i m : Nat} (hs : Srt d lt a m l) (h1 : a ≤ i) (_him : i ≤ m) (hl : ∀ k, a ≤ k → k < i → lt (nth d l m) (nth d l k) = false) (hr : ∀ k, i ≤ k → k < m → lt (nth d l m) (nth d l k) = true) (he : ∀ t, nth d l' t = sfdF (nth d l) m i t) : Srt d lt a (m + 1) l' := by
  intro p q hp hpq hq
  rw [he, he]
  unfold sfdF
  by_cases c1 : q < i
  · rw [if_neg (by omega), if_neg (by omega), if_neg (by omega), if_neg (by omega)]
    exact hs _ _ hp hpq (by omega)
  · by_cases c2 : q = i
    · rw [if_neg (by omega), if_pos c2, if_neg (by omega), if_neg (by omega)]
      exact hl p hp (by omega)
    · rw [if_pos ⟨by omega, by omega⟩]
      by_cases c3 : p < i
      · rw [if_neg (by omega), if_neg (by omega)]; exact hs _ _ hp (by omega) (by omega)
      · by_cases c4 : p = i
        · rw [if_neg (by omega), if_pos c4]; exact o.as _ _ (hr (q - 1) (by omega) (by omega))
        · rw [if_pos ⟨by omega, by omega⟩]; exact hs _ _ (by omega) (by omega) (by omega)
/-- What the symmetric search has found. -/
structure SymI (d : α) (lt : α → α → Bool) (l : List α) (s0 r0 n s r : Nat) : Prop where
  le : s0 ≤ s ∧ s ≤ r ∧ r ≤ r0
  lo : ∀ c, s0 ≤ c → c < s → lt (nth d l (n - 1 - c)) (nth d l c) = false
  hi : ∀ c, r ≤ c → c < r0 → lt (nth d l (n - 1 - c)) (nth d l c) = true
/-- Behind the rotation all of the left half is at most all of the right half. -/
theorem sym_split (o : Ord3 lt) {a m b mid s s0 r0 : Nat} (ham : a < m) (hmb : m < b) (hmid : mid = (a + b) / 2) (hs0 : (mid < m ∧ s0 = mid + m - b ∧ r0 = mid) ∨ (m ≤ mid ∧ s0 = a ∧ r0 = m))
    (h1 : Srt d lt a m l) (h2 : Srt d lt m b l) (hI : SymI d lt l s0 r0 (mid + m) s s) (he : ∀ t, nth d l' t = rotF (nth d l) m (m - s) (mid + m - s - m) t) :
    a ≤ s ∧ s ≤ m ∧ s ≤ mid ∧ m ≤ mid + m - s ∧ mid + m - s ≤ b ∧ mid ≤ mid + m - s ∧ Srt d lt a s l' ∧ Srt d lt s mid l' ∧ Srt d lt mid (mid + m - s) l' ∧ Srt d lt (mid + m - s) b l' ∧ (∀ p q, a ≤ p → p < mid → mid ≤ q → q < b → lt (nth d l' q) (nth d l' p) = false) := by
  obtain ⟨⟨i1, i2, i3⟩, hlo, hhi⟩ := hI
  have hsa : a ≤ s := by omega
  have hsm : s ≤ m := by omega
  have hsd : s ≤ mid := by omega
  have hem : m ≤ mid + m - s := by omega
  have heb : mid + m - s ≤ b := by omega
  -- the places behind the rotation
  have e1 : ∀ t, t < s → nth d l' t = nth d l t := fun t ht => by
    rw [he]; unfold rotF; rw [if_neg (by omega), if_neg (by omega)]
  have e2 : ∀ t, s ≤ t → t < mid → nth d l' t = nth d l (t + (m - s)) := fun t ht ht' => by
    rw [he]; unfold rotF; rw [if_pos (by omega)]
  have e3 : ∀ t, mid ≤ t → t < mid + m - s → nth d l' t = nth d l (t - (mid + m - s - m)) := fun t ht ht' => by
    rw [he]; unfold rotF; rw [if_neg (by omega), if_pos (by omega)]
  have e4 : ∀ t, mid + m - s ≤ t → nth d l' t = nth d l t := fun t ht => by
    rw [he]; unfold rotF; rw [if_neg (by omega), if_neg (by omega)]
  refine ⟨hsa, hsm, hsd, hem, heb, by omega, ?_, ?_, ?_, ?_, ?_⟩
  · intro p q hp hpq hq
    rw [e1 p (by omega), e1 q hq]; exact h1 p q hp hpq (by omega)
  · intro p q hp hpq hq
    rw [e2 p hp (by omega), e2 q (by omega) hq]; exact h2 _ _ (by omega) (by omega) (by omega)
  · intro p q hp hpq hq
    rw [e3 p hp (by omega), e3 q (by omega) hq]; exact h1 _ _ (by omega) (by omega) (by omega)
  · intro p q hp hpq hq
    rw [e4 p hp, e4 q (by omega)]; exact h2 p q (by omega) hpq hq
  · intro p q hp hpm hq hqb
    by_cases c1 : p < s
    · rw [e1 _ c1]
      by_cases c2 : q < mid + m - s
      · rw [e3 _ hq c2]; exact h1 _ _ hp (by omega) (by omega)
      · rw [e4 _ (by omega)]
        -- left of the search: s is not its first place
        have hs1 : s0 < s := by omega
        have k1 := hlo (s - 1) (by omega) (by omega)
        have k2 := h1.le o (p := p) (q := s - 1) hp (by omega) (by omega)
        have k3 := h2.le o (p := mid + m - 1 - (s - 1)) (q := q) (by omega) (by omega) hqb
        exact o.tr _ _ _ (o.tr _ _ _ k2 k1) k3
    · rw [e2 _ (by omega) hpm]
      by_cases c2 : q < mid + m - s
      · rw [e3 _ hq c2]
        have hs1 : s < r0 := by omega
        have k1 := o.as _ _ (hhi s (Nat.le_refl _) hs1)
        have k2 := h2.le o (p := p + (m - s)) (q := mid + m - 1 - s) (by omega) (by omega) (by omega)
        have k3 := h1.le o (p := s) (q := q - (mid + m - s - m)) (by omega) (by omega) (by omega)
        exact o.tr _ _ _ (o.tr _ _ _ k2 k1) k3
      · rw [e4 _ (by omega)]; exact h2 _ _ (by omega) (by omega) hqb
/-- The halves sorted by themselves make the whole. -/
theorem sym_join {a mid b : Nat} {l1 l2 : List α} (hs : ∀ p q, a ≤ p → p < mid → mid ≤ q → q < b → lt (nth d l q) (nth d l p) = false) (h1 : Pm d a mid l l1) (h2 : Pm d mid b l1 l2) (s1 : Srt d lt a mid l1) (s2 : Srt d lt mid b l2) : Srt d lt a b l2 := by
  intro p q hp hpq hq
  by_cases c1 : q < mid
  · rw [h2.out (by omega), h2.out (by omega)]; exact s1 p q hp hpq c1
  · by_cases c2 : mid ≤ p
    · exact s2 p q c2 hpq hq
    · rw [h2.out (k := p) (by omega)]
      obtain ⟨q', g1, g2, g3⟩ := h2.src (k := q) (by omega) hq
      obtain ⟨p', f1, f2, f3⟩ := h1.src (k := p) hp (by omega)
      rw [g3, f3, h1.out (k := q') (by omega)]
      exact hs p' q' f1 f2 g1 g2
end
end Go.Proofs.YtaghaigckgckpaaDoor
