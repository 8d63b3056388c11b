/-
  PARTS of a claim, merged by segs.py: TxI, PgB, PgC, PgF.
-/
import Derived.Test.YtnbacdmlaedppaaGreatDoorQ46
import Derived.Test.YtnbacdmlaedppaaGreatDoorQ31
import Derived.Test.YtnbacdmlaedppaaGreatDoorQ04
namespace Go.Proofs.YtnbacdmlaedppaaGreatDoor

/-! ### TxI -/
section

theorem cutP {p : UInt8 → Bool} : ∀ {a b r s : Str}, (∀ x ∈ a, p x = true) → (∀ x ∈ b, p x = true) → (∀ x, r.head? = some x → p x = false) → (∀ x, s.head? = some x → p x = false) → a ++ r = b ++ s → a = b ∧ r = s
  | [], [], r, s, _, _, _, _, h => ⟨rfl, h⟩
  | [], y :: b, r, s, _, hb, hr, _, h => by
    simp only [List.nil_append, List.cons_append] at h
    subst h
    have := hr y rfl
    rw [hb y (List.mem_cons_self ..)] at this; cases this
  | x :: a, [], r, s, ha, _, _, hs, h => by
    simp only [List.nil_append, List.cons_append] at h
    subst h
    have := hs x rfl
    rw [ha x (List.mem_cons_self ..)] at this; cases this
  | x :: a, y :: b, r, s, ha, hb, hr, hs, h => by
    simp only [List.cons_append, List.cons.injEq] at h
    obtain ⟨rfl, h⟩ := h
    obtain ⟨rfl, rfl⟩ := cutP (fun z hz => ha z (List.mem_cons_of_mem _ hz)) (fun z hz => hb z (List.mem_cons_of_mem _ hz)) hr hs h
    exact ⟨rfl, rfl⟩
/-- What may follow a name or a literal. -/
def stopB (x : UInt8) : Bool := x == 32 || (x == 40 || (x == 41 || (x == 44 || x == 59)))
def Stop (r : Str) : Prop := ∀ x, r.head? = some x → stopB x = true
theorem Stop.nil : Stop [] := fun x h => by cases h
theorem Stop.cons {c : UInt8} {r : Str} (h : stopB c = true) : Stop (c :: r) := fun x e => by
  simp only [List.head?_cons, Option.some.injEq] at e; subst e; exact h
theorem stop_wrd {x : UInt8} (h : stopB x = true) : wrdQ x = false ∧ wrdB x = false := by
  have key : ∀ i : Fin 256, stopB (UInt8.ofNat i.val) = true → wrdQ (UInt8.ofNat i.val) = false ∧ wrdB (UInt8.ofNat i.val) = false := by decide +kernel
  have := key ⟨x.toNat, x.toNat_lt⟩
  simp only [UInt8.ofNat_toNat] at this
  exact this h
theorem let_wrd {x : UInt8} (h : letQ x = true) : wrdQ x = true := by unfold wrdQ; rw [h]; rfl
theorem name_parts {l : Str} (h : nameB l = true) : (∀ x ∈ l, wrdQ x = true) ∧ (∃ c t, l = c :: t ∧ letQ c = true) ∧ l ∉ keyQ := by
  unfold nameB catB at h
  simp only [Bool.and_eq_true, Bool.not_eq_true', decide_eq_true_eq] at h
  obtain ⟨hk, h0, _, h1, h2⟩ := h
  refine ⟨?_, ?_, ?_⟩
  · match l, h0 with
    | c :: t, _ =>
      intro x hx
      rcases List.mem_cons.1 hx with rfl | hx
      · exact let_wrd h1
      · exact List.all_eq_true.1 h2 x hx
  · match l, h0 with
    | c :: t, _ => exact ⟨c, t, rfl, h1⟩
  · intro hm
    rw [← List.contains_iff_mem] at hm
    rw [hm] at hk; cases hk
theorem cut_name {a b r s : Str} (ha : nameB a = true) (hb : nameB b = true) (hr : Stop r) (hs : Stop s) (h : a ++ r = b ++ s) : a = b ∧ r = s :=
  cutP (name_parts ha).1 (name_parts hb).1 (fun x hx => (stop_wrd (hr x hx)).1) (fun x hx => (stop_wrd (hs x hx)).1) h
theorem lit_end {r : Str} (hr : Stop r) : ∃ c u, r ++ [32] = c :: u ∧ wrdB c = false := by
  cases r with
  | nil => exact ⟨32, [], rfl, (stop_wrd (by decide)).2⟩
  | cons c u => exact ⟨c, u ++ [32], rfl, (stop_wrd (hr c rfl)).2⟩
theorem cut_lit {a b : V} {r s : Str} (ha : a.valid = true) (hb : b.valid = true) (na : I64 a.n) (nb : I64 b.n) (hr : Stop r) (hs : Stop s) (h : textL a ++ r = textL b ++ s) : a = b ∧ r = s := by
  obtain ⟨c, u, e1, w1⟩ := lit_end hr
  obtain ⟨d, v, e2, w2⟩ := lit_end hs
  have h2 : textL a ++ (c :: u) = textL b ++ (d :: v) := by rw [← e1, ← e2, ← List.append_assoc, ← List.append_assoc, h]
  have n1 := nextL_text ha na c w1 u 0
  have n2 := nextL_text hb nb d w2 v 0
  rw [h2, n2] at n1
  have e : a = b := by
    have := congrArg (fun p => p.1) n1
    simp only at this
    injection this with _ _ h3 _
    exact h3.symm
  subst e
  exact ⟨rfl, List.append_cancel_left h⟩
/-- A literal does not begin with a letter. -/
theorem lit_head {v : V} (hv : v.valid = true) : ∃ c t, textL v = c :: t ∧ letQ c = false ∧ c ≠ 41 := by
  by_cases h1 : v.k = 1
  · rw [textL_int hv h1]
    have hb := itoa_bytes v.n
    have hne := itoa_ne_nil v.n
    match Lib.itoa v.n, hne, hb with
    | x :: r, _, hb =>
      have := hb x (List.mem_cons_self ..)
      refine ⟨x, r, rfl, ?_, fun e => ?_⟩
      · unfold letQ; simp; omega
      · subst e; revert this; decide
  · rw [textL_str hv h1]; exact ⟨34, _, rfl, by decide, by decide⟩
/-- A valid term. -/
structure Trm.good (t : Trm) : Prop where
  e : termE t = 0
  n : I64 t.c.n
theorem term_head {t : Trm} (h : t.good) : ∃ c u, termS t = c :: u ∧ c ≠ 41 := by
  unfold termS
  have h1 := h.e
  unfold termE at h1
  by_cases h0 : t.v = []
  · rw [if_pos h0] at h1 ⊢
    have hv : t.c.valid = true := by
      split at h1
      · assumption
      · exact absurd h1 (by decide)
    obtain ⟨c, u, e, _, e2⟩ := lit_head hv
    exact ⟨c, u, e, e2⟩
  · rw [if_neg h0]
    obtain ⟨_, ⟨c, u, e, h2⟩, _⟩ := name_parts (termE_var h.e h0)
    exact ⟨c, u, e, fun e => by subst e; revert h2; decide⟩
theorem cut_term {a b : Trm} {r s : Str} (ha : a.good) (hb : b.good) (hr : Stop r) (hs : Stop s) (h : termS a ++ r = termS b ++ s) : a = b ∧ r = s := by
  have key : ∀ {t : Trm}, t.good → (t.v = [] ∧ t.c.valid = true) ∨ (t.v ≠ [] ∧ nameB t.v = true ∧ t.c.k = 0 ∧ t.c.n = 0 ∧ t.c.s.size = 0) := by
    intro t ht
    have h1 := ht.e
    by_cases h0 : t.v = []
    · refine .inl ⟨h0, ?_⟩
      unfold termE at h1
      rw [if_pos h0] at h1
      split at h1
      · assumption
      · exact absurd h1 (by decide)
    · refine .inr ⟨h0, termE_var h1 h0, ?_⟩
      unfold termE at h1
      rw [if_neg h0, if_neg (by rw [termE_var ht.e h0]; decide)] at h1
      split at h1
      · assumption
      · exact absurd h1 (by decide)
  have veq : ∀ {x y : V}, (x.k = 0 ∧ x.n = 0 ∧ x.s.size = 0) → (y.k = 0 ∧ y.n = 0 ∧ y.s.size = 0) → x = y := by
    rintro ⟨k, n, s⟩ ⟨k', n', s'⟩ ⟨h1, h2, h3⟩ ⟨h4, h5, h6⟩
    simp only at *
    subst h1 h2 h4 h5
    have e1 : s.data.size = s'.data.size := by show s.size = s'.size; omega
    have : s = s' := ByteArray.ext (Array.ext e1 (fun i hi _ => absurd hi (by show ¬ i < s.size; omega)))
    rw [this]
  obtain ⟨av, ac⟩ := a
  obtain ⟨bv, bc⟩ := b
  unfold termS at h
  simp only at h
  rcases key ha with ⟨a1, a2⟩ | ⟨a1, a2, a3⟩
  · rcases key hb with ⟨b1, b2⟩ | ⟨b1, b2, b3⟩
    · simp only at a1 b1
      rw [if_pos a1, if_pos b1] at h
      obtain ⟨e, e2⟩ := cut_lit a2 b2 ha.n hb.n hr hs h
      simp only at e
      exact ⟨by rw [a1, b1, e], e2⟩
    · simp only at a1 b1
      rw [if_pos a1, if_neg b1] at h
      obtain ⟨c, u, e, hl, _⟩ := lit_head a2
      obtain ⟨_, ⟨d, v, e2, hl2⟩, _⟩ := name_parts b2
      simp only at e e2
      rw [e, e2] at h
      simp only [List.cons_append, List.cons.injEq] at h
      rw [h.1, hl2] at hl; cases hl
  · rcases key hb with ⟨b1, b2⟩ | ⟨b1, b2, b3⟩
    · simp only at a1 b1
      rw [if_neg a1, if_pos b1] at h
      obtain ⟨c, u, e, hl, _⟩ := lit_head b2
      obtain ⟨_, ⟨d, v, e2, hl2⟩, _⟩ := name_parts a2
      simp only at e e2
      rw [e, e2] at h
      simp only [List.cons_append, List.cons.injEq] at h
      rw [← h.1, hl2] at hl; cases hl
    · simp only at a1 b1
      rw [if_neg a1, if_neg b1] at h
      obtain ⟨e, e2⟩ := cut_name a2 b2 hr hs h
      simp only at e
      have := veq a3 b3
      simp only at this
      exact ⟨by rw [e, this], e2⟩
/-- The tail of a joined list: ", " ahead of each. -/
def flatS (l : List Str) : Str := l.flatMap fun y => comS ++ y
theorem flat_cons (x : Str) (l : List Str) : flatS (x :: l) = comS ++ (x ++ flatS l) := by simp [flatS]
theorem joinS_cons (x : Str) (l : List Str) : joinS comS (x :: l) = x ++ flatS l := rfl
theorem stop_flat {l : List Str} {r : Str} (h : Stop r) : Stop (flatS l ++ r) := by
  cases l with
  | nil => exact h
  | cons x l => exact Stop.cons (by decide)
/-- A list whose items are cut, up to an end that does not begin with a comma. -/
theorem cut_flat {α : Type} {f : α → Str} {G : α → Prop} (hf : ∀ a b r s, G a → G b → Stop r → Stop s → f a ++ r = f b ++ s → a = b ∧ r = s) : ∀ {l m : List α} {r s : Str}, (∀ x ∈ l, G x) → (∀ x ∈ m, G x) → Stop r → Stop s → r.head? ≠ some 44 → s.head? ≠ some 44 → flatS (l.map f) ++ r = flatS (m.map f) ++ s → l = m ∧ r = s
  | [], [], r, s, _, _, _, _, _, _, h => ⟨rfl, h⟩
  | [], y :: m, r, s, _, _, _, _, h1, _, h => by
    rw [List.map_nil, List.map_cons, flat_cons] at h
    have : r = 44 :: (32 :: (f y ++ flatS (m.map f)) ++ s) := h
    rw [this] at h1; exact absurd rfl h1
  | x :: l, [], r, s, _, _, _, _, _, h1, h => by
    rw [List.map_nil, List.map_cons, flat_cons] at h
    have : s = 44 :: (32 :: (f x ++ flatS (l.map f)) ++ r) := h.symm
    rw [this] at h1; exact absurd rfl h1
  | x :: l, y :: m, r, s, hl, hm, hr, hs, h1, h2, h => by
    rw [List.map_cons, List.map_cons, flat_cons, flat_cons, List.append_assoc, List.append_assoc, List.append_assoc, List.append_assoc] at h
    have h3 := List.append_cancel_left h
    obtain ⟨rfl, h4⟩ := hf x y _ _ (hl x (List.mem_cons_self ..)) (hm y (List.mem_cons_self ..)) (stop_flat hr) (stop_flat hs) h3
    obtain ⟨rfl, rfl⟩ := cut_flat hf (fun z hz => hl z (List.mem_cons_of_mem _ hz)) (fun z hz => hm z (List.mem_cons_of_mem _ hz)) hr hs h1 h2 h4
    exact ⟨rfl, rfl⟩
/-- The same for the joined list: no item begins as the end does. -/
theorem cut_join {α : Type} {f : α → Str} {G : α → Prop} (hf : ∀ a b r s, G a → G b → Stop r → Stop s → f a ++ r = f b ++ s → a = b ∧ r = s) (hh : ∀ a, G a → ∃ c u, f a = c :: u ∧ c ≠ 41 ∧ c ≠ 59) {l m : List α} {r s : Str} (hl : ∀ x ∈ l, G x) (hm : ∀ x ∈ m, G x) (hr : ∃ c u, r = c :: u ∧ (c = 41 ∨ c = 59)) (hs : ∃ c u, s = c :: u ∧ (c = 41 ∨ c = 59)) (h : joinS comS (l.map f) ++ r = joinS comS (m.map f) ++ s) : l = m ∧ r = s := by
  obtain ⟨c, u, rfl, hc⟩ := hr
  obtain ⟨d, v, rfl, hd⟩ := hs
  have sr : Stop (c :: u) := Stop.cons (by rcases hc with rfl | rfl <;> decide)
  have ss : Stop (d :: v) := Stop.cons (by rcases hd with rfl | rfl <;> decide)
  have nr : (c :: u).head? ≠ some 44 := by rcases hc with rfl | rfl <;> simp
  have ns : (d :: v).head? ≠ some 44 := by rcases hd with rfl | rfl <;> simp
  cases l with
  | nil =>
    cases m with
    | nil => exact ⟨rfl, h⟩
    | cons y m =>
      obtain ⟨e, t, e1, e2, e3⟩ := hh y (hm y (List.mem_cons_self ..))
      rw [List.map_nil, List.map_cons, joinS_cons, e1] at h
      have h4 : c = e := by
        have := congrArg List.head? h
        simpa [joinS] using this
      subst h4
      rcases hc with rfl | rfl
      · exact absurd rfl e2
      · exact absurd rfl e3
  | cons x l =>
    cases m with
    | nil =>
      obtain ⟨e, t, e1, e2, e3⟩ := hh x (hl x (List.mem_cons_self ..))
      rw [List.map_nil, List.map_cons, joinS_cons, e1] at h
      have h4 : e = d := by
        have := congrArg List.head? h
        simpa [joinS] using this
      subst h4
      rcases hd with rfl | rfl
      · exact absurd rfl e2
      · exact absurd rfl e3
    | cons y m =>
      rw [List.map_cons, List.map_cons, joinS_cons, joinS_cons, List.append_assoc, List.append_assoc] at h
      obtain ⟨rfl, h4⟩ := hf x y _ _ (hl x (List.mem_cons_self ..)) (hm y (List.mem_cons_self ..)) (stop_flat sr) (stop_flat ss) h
      obtain ⟨rfl, h5⟩ := cut_flat hf (fun z hz => hl z (List.mem_cons_of_mem _ hz)) (fun z hz => hm z (List.mem_cons_of_mem _ hz)) sr ss nr ns h4
      exact ⟨rfl, h5⟩
/-- A valid atom. -/
structure Atm.good (a : Atm) : Prop where
  rel : nameB a.rel = true
  ts : ∀ t ∈ a.ts, t.good
theorem let_no {c : UInt8} (h : letQ c = true) : c ≠ 41 ∧ c ≠ 59 ∧ c ≠ 44 ∧ c ≠ 32 := by
  refine ⟨?_, ?_, ?_, ?_⟩ <;> (rintro rfl; revert h; decide)
theorem lit_no59 {v : V} (hv : v.valid = true) : (textL v).head? ≠ some 59 := by
  by_cases h1 : v.k = 1
  · rw [textL_int hv h1]
    have hb := itoa_bytes v.n
    intro e
    have := hb 59 (List.mem_of_mem_head? e)
    revert this; decide
  · rw [textL_str hv h1]; simp [quoteL]
theorem term_head2 (t : Trm) (h : t.good) : ∃ c u, termS t = c :: u ∧ c ≠ 41 ∧ c ≠ 59 := by
  obtain ⟨c, u, e, e1⟩ := term_head h
  refine ⟨c, u, e, e1, ?_⟩
  rintro rfl
  unfold termS at e
  by_cases h0 : t.v = []
  · rw [if_pos h0] at e
    have h1 := h.e
    unfold termE at h1
    rw [if_pos h0] at h1
    have hv : t.c.valid = true := by
      split at h1
      · assumption
      · exact absurd h1 (by decide)
    exact lit_no59 hv (by rw [e]; rfl)
  · rw [if_neg h0] at e
    obtain ⟨_, ⟨d, v, e2, hl⟩, _⟩ := name_parts (termE_var h.e h0)
    rw [e] at e2
    injection e2 with e3
    subst e3
    exact absurd rfl (let_no hl).2.1
/-- The text of an atom behind its 'not'. -/
def atomT0 (a : Atm) : Str := a.rel ++ (40 :: (joinS comS (a.ts.map termS) ++ [41]))
theorem atomS_eq (a : Atm) : atomS a = (if a.neg = true then [110, 111, 116, 32] else []) ++ atomT0 a := by
  unfold atomS atomT0
  simp
theorem cut_atom0 {a b : Atm} {r s : Str} (ha : a.good) (hb : b.good) (h : atomT0 a ++ r = atomT0 b ++ s) : (a.rel = b.rel ∧ a.ts = b.ts) ∧ r = s := by
  unfold atomT0 at h
  simp only [List.append_assoc, List.cons_append, List.nil_append] at h
  obtain ⟨e1, h2⟩ := cut_name ha.rel hb.rel (Stop.cons (by decide)) (Stop.cons (by decide)) h
  injection h2 with _ h2
  obtain ⟨e2, h3⟩ := cut_join (f := termS) (G := Trm.good) (fun a b r s ha hb hr hs h => cut_term ha hb hr hs h) term_head2 ha.ts hb.ts ⟨41, _, rfl, .inl rfl⟩ ⟨41, _, rfl, .inl rfl⟩ h2
  injection h3 with _ h3
  exact ⟨⟨e1, e2⟩, h3⟩
theorem not_rel {a b : Atm} {r s : Str} (hb : b.good) (h : [110, 111, 116, 32] ++ atomT0 a ++ r = atomT0 b ++ s) : False := by
  unfold atomT0 at h
  simp only [List.append_assoc, List.cons_append, List.nil_append] at h
  have h' : [110, 111, 116] ++ (32 :: (a.rel ++ (40 :: (joinS comS (a.ts.map termS) ++ (41 :: r))))) = b.rel ++ (40 :: (joinS comS (b.ts.map termS) ++ (41 :: s))) := h
  have h2 := (cutP (p := wrdQ) (a := [110, 111, 116]) (b := b.rel) (by decide) (name_parts hb.rel).1 (fun x hx => by simp only [List.head?_cons, Option.some.injEq] at hx; subst hx; decide) (fun x hx => by simp only [List.head?_cons, Option.some.injEq] at hx; subst hx; decide) h').1
  have := (name_parts hb.rel).2.2
  rw [← h2] at this
  exact this (by decide)
theorem cut_atom {a b : Atm} {r s : Str} (ha : a.good) (hb : b.good) (h : atomS a ++ r = atomS b ++ s) : a = b ∧ r = s := by
  rw [atomS_eq, atomS_eq] at h
  obtain ⟨an, ar, at'⟩ := a
  obtain ⟨bn, br, bt⟩ := b
  simp only at h
  cases an
  · cases bn
    · simp only [Bool.false_eq_true, if_false, List.nil_append] at h
      obtain ⟨⟨e1, e2⟩, e3⟩ := cut_atom0 ha hb h
      simp only at e1 e2
      exact ⟨by rw [e1, e2], e3⟩
    · simp only [Bool.false_eq_true, if_false, if_true, List.nil_append] at h
      exact (not_rel ha h.symm).elim
  · cases bn
    · simp only [Bool.false_eq_true, if_false, if_true, List.nil_append] at h
      exact (not_rel hb h).elim
    · simp only [if_true, List.append_assoc] at h
      obtain ⟨⟨e1, e2⟩, e3⟩ := cut_atom0 ha hb (List.append_cancel_left h)
      simp only at e1 e2
      exact ⟨by rw [e1, e2], e3⟩
theorem atom_head {a : Atm} (ha : a.good) : ∃ c u, atomS a = c :: u ∧ letQ c = true := by
  rw [atomS_eq]
  cases a.neg
  · obtain ⟨_, ⟨c, u, e, hl⟩, _⟩ := name_parts ha.rel
    refine ⟨c, u ++ (40 :: (joinS comS (a.ts.map termS) ++ [41])), ?_, hl⟩
    simp only [Bool.false_eq_true, if_false, List.nil_append]
    unfold atomT0
    rw [e]; rfl
  · exact ⟨110, _, rfl, by decide⟩
/-- A valid condition. -/
structure Cnd.good (c : Cnd) : Prop where
  v : nameB c.v = true
  lo : 0 ≤ c.op
  hi : c.op ≤ 5
  ok : c.c.valid = true
  n : I64 c.c.n
/-- The text of a condition behind its comma. -/
def condT0 (c : Cnd) : Str := c.v ++ (32 :: (opS c.op ++ (32 :: textL c.c)))
theorem condS_eq (c : Cnd) : condS c = comS ++ condT0 c := by unfold condS condT0; simp
theorem op_cases {o : Int} (h : 0 ≤ o) (h' : o ≤ 5) : o = 0 ∨ o = 1 ∨ o = 2 ∨ o = 3 ∨ o = 4 ∨ o = 5 := by omega
theorem cut_op {o p : Int} (h : 0 ≤ o) (h' : o ≤ 5) (g : 0 ≤ p) (g' : p ≤ 5) {r s : Str} (e : opS o ++ (32 :: r) = opS p ++ (32 :: s)) : o = p ∧ r = s := by
  rcases op_cases h h' with rfl | rfl | rfl | rfl | rfl | rfl <;> rcases op_cases g g' with rfl | rfl | rfl | rfl | rfl | rfl <;> simp [opS] at e <;> first | exact ⟨rfl, e⟩ | exact absurd e (by decide) | skip
theorem cut_cond {a b : Cnd} {r s : Str} (ha : a.good) (hb : b.good) (hr : Stop r) (hs : Stop s) (h : condT0 a ++ r = condT0 b ++ s) : a = b ∧ r = s := by
  unfold condT0 at h
  simp only [List.append_assoc, List.cons_append] at h
  obtain ⟨e1, h2⟩ := cut_name ha.v hb.v (Stop.cons (by decide)) (Stop.cons (by decide)) h
  injection h2 with _ h2
  obtain ⟨e2, h3⟩ := cut_op ha.lo ha.hi hb.lo hb.hi h2
  obtain ⟨e3, e4⟩ := cut_lit ha.ok hb.ok ha.n hb.n hr hs h3
  obtain ⟨_, _, _⟩ := a
  obtain ⟨_, _, _⟩ := b
  simp only at e1 e2 e3
  exact ⟨by rw [e1, e2, e3], e4⟩
theorem atom_cond {a : Atm} {c : Cnd} {r s : Str} (ha : a.good) (hc : c.good) (h : atomS a ++ r = condT0 c ++ s) : False := by
  rw [atomS_eq] at h
  unfold condT0 at h
  have key : ∀ {n : Str} {x y : UInt8} {r s : Str}, (∀ z ∈ n, wrdQ z = true) → wrdQ x = false → wrdQ y = false → n ++ (x :: r) = c.v ++ (y :: s) → n = c.v ∧ x = y := by
    intro n x y r s hn hx hy e
    obtain ⟨e1, e2⟩ := cutP hn (name_parts hc.v).1 (fun z hz => by simp only [List.head?_cons, Option.some.injEq] at hz; subst hz; exact hx) (fun z hz => by simp only [List.head?_cons, Option.some.injEq] at hz; subst hz; exact hy) e
    injection e2 with e2
    exact ⟨e1, e2⟩
  cases hn : a.neg
  · rw [hn] at h
    unfold atomT0 at h
    simp only [Bool.false_eq_true, if_false, List.nil_append, List.append_assoc, List.cons_append] at h
    have := (key (name_parts ha.rel).1 (by decide) (by decide) h).2
    revert this; decide
  · rw [hn] at h
    simp only [if_true, List.append_assoc, List.cons_append, List.nil_append] at h
    have := (key (n := [110, 111, 116]) (x := 32) (r := atomT0 a ++ r) (by decide) (by decide) (by decide) h).1
    have h2 := (name_parts hc.v).2.2
    rw [← this] at h2
    exact h2 (by decide)
/-- A valid rule. -/
structure Rul.good (r : Rul) : Prop where
  ne : r.atoms ≠ []
  atoms : ∀ a ∈ r.atoms, a.good
  conds : ∀ c ∈ r.conds, c.good
/-- Atoms and conditions behind the first atom. -/
theorem conds_flat : ∀ (l : List Cnd), l.flatMap condS = flatS (l.map condT0)
  | [] => rfl
  | c :: l => by rw [List.flatMap_cons, List.map_cons, flat_cons, conds_flat l, condS_eq, List.append_assoc]
theorem cut_tail : ∀ {l m : List Atm} {c d : List Cnd} {r s : Str}, (∀ a ∈ l, a.good) → (∀ a ∈ m, a.good) → (∀ x ∈ c, x.good) → (∀ x ∈ d, x.good) → Stop r → Stop s → r.head? ≠ some 44 → s.head? ≠ some 44 →
    flatS (l.map atomS) ++ (flatS (c.map condT0) ++ r) = flatS (m.map atomS) ++ (flatS (d.map condT0) ++ s) → l = m ∧ c = d ∧ r = s
  | [], [], c, d, r, s, _, _, hc, hd, hr, hs, h1, h2, h => by
    obtain ⟨e1, e2⟩ := cut_flat (f := condT0) (G := Cnd.good) (fun a b r s ha hb hr hs h => cut_cond ha hb hr hs h) hc hd hr hs h1 h2 h
    exact ⟨rfl, e1, e2⟩
  | [], y :: m, c, d, r, s, _, hm, hc, _, _, _, h1, _, h => by
    rw [List.map_nil, List.map_cons, flat_cons] at h
    cases c with
    | nil =>
      have : r = 44 :: (32 :: (atomS y ++ flatS (m.map atomS)) ++ (flatS (d.map condT0) ++ s)) := h
      rw [this] at h1; exact absurd rfl h1
    | cons x c =>
      rw [List.map_cons, flat_cons] at h
      have h3 : comS ++ (condT0 x ++ (flatS (c.map condT0) ++ r)) = comS ++ (atomS y ++ (flatS (m.map atomS) ++ (flatS (d.map condT0) ++ s))) := by simpa [flatS] using h
      exact (atom_cond (hm y (List.mem_cons_self ..)) (hc x (List.mem_cons_self ..)) (List.append_cancel_left h3).symm).elim
  | x :: l, [], c, d, r, s, hl, _, _, hd, _, _, _, h1, h => by
    rw [List.map_nil, List.map_cons, flat_cons] at h
    cases d with
    | nil =>
      have : s = 44 :: (32 :: (atomS x ++ flatS (l.map atomS)) ++ (flatS (c.map condT0) ++ r)) := h.symm
      rw [this] at h1; exact absurd rfl h1
    | cons y d =>
      rw [List.map_cons, flat_cons] at h
      have h3 : comS ++ (atomS x ++ (flatS (l.map atomS) ++ (flatS (c.map condT0) ++ r))) = comS ++ (condT0 y ++ (flatS (d.map condT0) ++ s)) := by simpa [flatS] using h
      exact (atom_cond (hl x (List.mem_cons_self ..)) (hd y (List.mem_cons_self ..)) (List.append_cancel_left h3)).elim
  | x :: l, y :: m, c, d, r, s, hl, hm, hc, hd, hr, hs, h1, h2, h => by
    rw [List.map_cons, List.map_cons, flat_cons, flat_cons, List.append_assoc, List.append_assoc, List.append_assoc, List.append_assoc] at h
    obtain ⟨rfl, h4⟩ := cut_atom (hl x (List.mem_cons_self ..)) (hm y (List.mem_cons_self ..)) (List.append_cancel_left h)
    obtain ⟨rfl, e1, e2⟩ := cut_tail (fun z hz => hl z (List.mem_cons_of_mem _ hz)) (fun z hz => hm z (List.mem_cons_of_mem _ hz)) hc hd hr hs h1 h2 h4
    exact ⟨rfl, e1, e2⟩
theorem cut_rule {a b : Rul} {r s : Str} (ha : a.good) (hb : b.good) (hr : Stop r) (hs : Stop s) (h1 : r.head? ≠ some 44) (h2 : s.head? ≠ some 44) (h : ruleS a ++ r = ruleS b ++ s) : a = b ∧ r = s := by
  obtain ⟨al, ac⟩ := a
  obtain ⟨bl, bc⟩ := b
  unfold ruleS at h
  simp only [conds_flat] at h
  match al, ha.ne, bl, hb.ne, ha, hb, h with
  | x :: l, _, y :: m, _, ha, hb, h =>
    rw [List.map_cons, List.map_cons, joinS_cons, joinS_cons, List.append_assoc, List.append_assoc, List.append_assoc, List.append_assoc] at h
    obtain ⟨rfl, h4⟩ := cut_atom (ha.atoms x (List.mem_cons_self ..)) (hb.atoms y (List.mem_cons_self ..)) h
    obtain ⟨rfl, rfl, e2⟩ := cut_tail (fun z hz => ha.atoms z (List.mem_cons_of_mem _ hz)) (fun z hz => hb.atoms z (List.mem_cons_of_mem _ hz)) ha.conds hb.conds hr hs h1 h2 h4
    exact ⟨rfl, e2⟩
def flatB (l : List Str) : Str := l.flatMap fun y => barS ++ y
theorem flatB_cons (x : Str) (l : List Str) : flatB (x :: l) = barS ++ (x ++ flatB l) := by simp [flatB]
/-- The text of the keys: what follows the rules. -/
def OrdEnd (r : Str) : Prop := r = [] ∨ ∃ u, r = 32 :: 111 :: u
theorem stop_bar {l : List Str} {r : Str} (h : OrdEnd r) : Stop (flatB l ++ r) ∧ (flatB l ++ r).head? ≠ some 44 := by
  cases l with
  | nil =>
    rcases h with rfl | ⟨u, rfl⟩
    · exact ⟨Stop.nil, by simp [flatB]⟩
    · exact ⟨Stop.cons (by decide), by simp [flatB]⟩
  | cons x l => exact ⟨Stop.cons (by decide), by simp [flatB, barS]⟩
theorem cut_bars : ∀ {l m : List Rul} {r s : Str}, (∀ a ∈ l, a.good) → (∀ a ∈ m, a.good) → OrdEnd r → OrdEnd s → flatB (l.map ruleS) ++ r = flatB (m.map ruleS) ++ s → l = m ∧ r = s
  | [], [], r, s, _, _, _, _, h => ⟨rfl, h⟩
  | [], y :: m, r, s, _, _, hr, _, h => by
    rw [List.map_nil, List.map_cons, flatB_cons] at h
    have h' : r = 32 :: 124 :: (32 :: (ruleS y ++ flatB (m.map ruleS)) ++ s) := h
    rcases hr with rfl | ⟨u, rfl⟩
    · cases h'
    · injection h' with _ h'; injection h' with h' _; exact absurd h' (by decide)
  | x :: l, [], r, s, _, _, _, hs, h => by
    rw [List.map_nil, List.map_cons, flatB_cons] at h
    have h' : s = 32 :: 124 :: (32 :: (ruleS x ++ flatB (l.map ruleS)) ++ r) := h.symm
    rcases hs with rfl | ⟨u, rfl⟩
    · cases h'
    · injection h' with _ h'; injection h' with h' _; exact absurd h' (by decide)
  | x :: l, y :: m, r, s, hl, hm, hr, hs, h => by
    rw [List.map_cons, List.map_cons, flatB_cons, flatB_cons, List.append_assoc, List.append_assoc, List.append_assoc, List.append_assoc] at h
    obtain ⟨rfl, h4⟩ := cut_rule (hl x (List.mem_cons_self ..)) (hm y (List.mem_cons_self ..)) (stop_bar hr).1 (stop_bar hs).1 (stop_bar hr).2 (stop_bar hs).2 (List.append_cancel_left h)
    obtain ⟨rfl, e2⟩ := cut_bars (fun z hz => hl z (List.mem_cons_of_mem _ hz)) (fun z hz => hm z (List.mem_cons_of_mem _ hz)) hr hs h4
    exact ⟨rfl, e2⟩
theorem orderS_end (l : List Ky) : OrdEnd (orderS l) := by
  unfold orderS
  split
  · exact .inl rfl
  · exact .inr ⟨_, rfl⟩
theorem cut_key {a b : Ky} {r s : Str} (ha : nameB a.v = true) (hb : nameB b.v = true) (hr : r = [] ∨ ∃ u, r = 44 :: u) (hs : s = [] ∨ ∃ u, s = 44 :: u) (h : keyS a ++ r = keyS b ++ s) : a = b ∧ r = s := by
  obtain ⟨av, ad⟩ := a
  obtain ⟨bv, bd⟩ := b
  unfold keyS at h
  simp only [List.append_assoc] at h ha hb
  have st : ∀ {d : Bool} {r : Str}, (r = [] ∨ ∃ u, r = 44 :: u) → Stop ((if d = true then [32, 100, 101, 115, 99] else []) ++ r) := by
    rintro (_ | _) r (rfl | ⟨u, rfl⟩)
    · exact Stop.nil
    · exact Stop.cons (by decide)
    · exact Stop.cons (by decide)
    · exact Stop.cons (by decide)
  obtain ⟨rfl, h2⟩ := cut_name ha hb (st hr) (st hs) h
  cases ad <;> cases bd
  · exact ⟨rfl, h2⟩
  · rcases hr with rfl | ⟨u, rfl⟩ <;> simp at h2
  · rcases hs with rfl | ⟨u, rfl⟩ <;> simp at h2
  · exact ⟨rfl, List.append_cancel_left h2⟩
theorem flat_end : ∀ (l : List Ky), flatS (l.map keyS) = [] ∨ ∃ u, flatS (l.map keyS) = 44 :: u
  | [] => .inl rfl
  | _x :: _l => .inr ⟨_, rfl⟩
theorem cut_keys : ∀ {l m : List Ky}, (∀ k ∈ l, nameB k.v = true) → (∀ k ∈ m, nameB k.v = true) → flatS (l.map keyS) = flatS (m.map keyS) → l = m
  | [], [], _, _, _ => rfl
  | [], y :: m, _, _, h => by rw [List.map_cons, flat_cons] at h; cases h
  | x :: l, [], _, _, h => by rw [List.map_cons, flat_cons] at h; cases h
  | x :: l, y :: m, hl, hm, h => by
    rw [List.map_cons, List.map_cons, flat_cons, flat_cons] at h
    obtain ⟨rfl, h2⟩ := cut_key (hl x (List.mem_cons_self ..)) (hm y (List.mem_cons_self ..)) (flat_end l) (flat_end m) (List.append_cancel_left h)
    rw [cut_keys (fun z hz => hl z (List.mem_cons_of_mem _ hz)) (fun z hz => hm z (List.mem_cons_of_mem _ hz)) h2]
theorem orderS_inj {l m : List Ky} (hl : ∀ k ∈ l, nameB k.v = true) (hm : ∀ k ∈ m, nameB k.v = true) (h : orderS l = orderS m) : l = m := by
  unfold orderS at h
  cases l with
  | nil =>
    cases m with
    | nil => rfl
    | cons y m => simp at h
  | cons x l =>
    cases m with
    | nil => simp at h
    | cons y m =>
      rw [if_neg (by simp), if_neg (by simp)] at h
      have h2 := List.append_cancel_left h
      rw [List.map_cons, List.map_cons, joinS_cons, joinS_cons] at h2
      obtain ⟨rfl, h3⟩ := cut_key (hl x (List.mem_cons_self ..)) (hm y (List.mem_cons_self ..)) (flat_end l) (flat_end m) h2
      rw [cut_keys (fun z hz => hl z (List.mem_cons_of_mem _ hz)) (fun z hz => hm z (List.mem_cons_of_mem _ hz)) h3]
/-- What a valid query's parts are. -/
theorem items_good {r : Rul} (h : itemsE r = 0) (hw : r.wf) : r.good := by
  unfold itemsE at h
  by_cases g0 : r.atoms = []
  · rw [if_pos g0] at h; exact absurd h (by decide)
  rw [if_neg g0] at h
  by_cases g1 : 8 < r.atoms.length ∨ 8 < r.conds.length
  · rw [if_pos g1] at h; exact absurd h (by decide)
  rw [if_neg g1] at h
  by_cases g2 : firstE atomE r.atoms = 0
  · rw [if_pos g2] at h
    refine ⟨g0, fun a ha => ?_, fun c hc => ?_⟩
    · have h1 := firstE_zero g2 a ha
      unfold atomE at h1
      by_cases k0 : nameB a.rel = false
      · rw [if_pos k0] at h1; exact absurd h1 (by decide)
      rw [if_neg k0] at h1
      by_cases k1 : 6 < a.ts.length
      · rw [if_pos k1] at h1; exact absurd h1 (by decide)
      rw [if_neg k1] at h1
      exact ⟨by simpa using k0, fun t ht => ⟨firstE_zero h1 t ht, (((hw.atoms a ha).ts t ht).c).n⟩⟩
    · have h1 := firstE_zero h c hc
      unfold condE at h1
      by_cases k0 : nameB c.v = false
      · rw [if_pos k0] at h1; exact absurd h1 (by decide)
      rw [if_neg k0] at h1
      by_cases k1 : c.op < 0 ∨ 5 < c.op
      · rw [if_pos k1] at h1; exact absurd h1 (by decide)
      rw [if_neg k1] at h1
      have hv : c.c.valid = true := by
        split at h1
        · assumption
        · exact absurd h1 (by decide)
      exact ⟨by simpa using k0, by omega, by omega, hv, ((hw.conds c hc).c).n⟩
  · rw [if_neg g2] at h; exact absurd h g2
theorem order_names {q : Qry} (h : checkQ q = 0) : ∀ k ∈ q.order, k.v ∈ q.head := by
  have key : ∀ {hd : List Str} {l : List Ky} {pre : List Str}, orderGo hd pre l = 0 → ∀ k ∈ l, k.v ∈ hd := by
    intro hd l
    induction l with
    | nil => intro pre _ k hk; cases hk
    | cons x l ih =>
      intro pre h k hk
      unfold orderGo at h
      split at h
      · rename_i hm
        split at h
        · exact absurd h (by decide)
        · rcases List.mem_cons.1 hk with rfl | hk
          · exact hm
          · exact ih h k hk
      · exact absurd h (by decide)
  exact key (check_parts h).2.2.2.2.2.2
/-- The aggregate of a valid query. -/
theorem agg_ways {q : Qry} (h : aggE q = 0) : ((q.agg = 0 ∨ q.agg = 1) ∧ q.aggVar = []) ∨ ((q.agg = 2 ∨ q.agg = 3 ∨ q.agg = 4) ∧ nameB q.aggVar = true) := by
  unfold aggE at h
  by_cases h1 : q.agg = 0 ∨ q.agg = 1
  · rw [if_pos h1] at h
    split at h
    · rename_i h2; exact .inl ⟨h1, h2⟩
    · exact absurd h (by decide)
  · rw [if_neg h1] at h
    split at h
    · rename_i h2
      split at h
      · rename_i h3; exact .inr ⟨h2, h3⟩
      · exact absurd h (by decide)
    · exact absurd h (by decide)
theorem cut_agg {a b : Qry} {r s : Str} (ha : aggE a = 0) (hb : aggE b = 0) (h : aggS a ++ (41 :: r) = aggS b ++ (41 :: s)) : a.agg = b.agg ∧ a.aggVar = b.aggVar ∧ r = s := by
  have nm2 : nameB a.aggVar = true → nameB b.aggVar = true → a.aggVar ++ (41 :: r) = b.aggVar ++ (41 :: s) → a.aggVar = b.aggVar ∧ r = s := fun n1 n2 e => by
    obtain ⟨e1, e2⟩ := cut_name n1 n2 (Stop.cons (by decide)) (Stop.cons (by decide)) e
    injection e2 with _ e2
    exact ⟨e1, e2⟩
  unfold aggS at h
  rcases agg_ways ha with ⟨a1, a2⟩ | ⟨a1, a2⟩ <;> rcases agg_ways hb with ⟨b1, b2⟩ | ⟨b1, b2⟩
  · rcases a1 with a1 | a1 <;> rcases b1 with b1 | b1 <;> rw [a1, b1] at h <;> simp at h
    · exact ⟨by rw [a1, b1], by rw [a2, b2], h⟩
    · exact ⟨by rw [a1, b1], by rw [a2, b2], h⟩
  · rcases a1 with a1 | a1 <;> rcases b1 with b1 | b1 | b1 <;> rw [a1, b1] at h <;> simp at h
  · rcases a1 with a1 | a1 | a1 <;> rcases b1 with b1 | b1 <;> rw [a1, b1] at h <;> simp at h
  · rcases a1 with a1 | a1 | a1 <;> rcases b1 with b1 | b1 | b1 <;> rw [a1, b1] at h <;> simp at h
    · obtain ⟨e1, e2⟩ := nm2 a2 b2 h; exact ⟨by rw [a1, b1], e1, e2⟩
    · obtain ⟨e1, e2⟩ := nm2 a2 b2 h; exact ⟨by rw [a1, b1], e1, e2⟩
    · obtain ⟨e1, e2⟩ := nm2 a2 b2 h; exact ⟨by rw [a1, b1], e1, e2⟩
theorem agg_head (q : Qry) (r : Str) : ∃ c u, aggS q ++ (41 :: r) = c :: u ∧ (c = 41 ∨ c = 59) := by
  unfold aggS
  split
  · exact ⟨59, _, rfl, .inr rfl⟩
  split
  · exact ⟨59, _, rfl, .inr rfl⟩
  split
  · exact ⟨59, _, rfl, .inr rfl⟩
  split
  · exact ⟨59, _, rfl, .inr rfl⟩
  · exact ⟨41, _, rfl, .inl rfl⟩
theorem textQ_inj {a b : Qry} (ha : checkQ a = 0) (hb : checkQ b = 0) (wa : a.wf) (wb : b.wf) (h : textQ a = textQ b) : a = b := by
  have hda := (headE_zero (check_parts ha).2.2.2.1).2.1
  have hdb := (headE_zero (check_parts hb).2.2.2.1).2.1
  have ga : ∀ r ∈ a.rules, r.good := fun r hr => items_good (rule_items_zero (firstE_zero (check_parts ha).2.2.2.2.2.1 r hr)) (wa.rules r hr)
  have gb : ∀ r ∈ b.rules, r.good := fun r hr => items_good (rule_items_zero (firstE_zero (check_parts hb).2.2.2.2.2.1 r hr)) (wb.rules r hr)
  unfold textQ headS at h
  simp only [List.append_assoc, List.cons_append, List.nil_append, List.cons.injEq, true_and] at h
  have id1 : ∀ l : List Str, l = l.map id := fun l => by simp
  rw [id1 a.head, id1 b.head] at h
  obtain ⟨e1, h2⟩ := cut_join (f := id) (G := fun v => nameB v = true) (fun x y r s hx hy hr hs h => cut_name hx hy hr hs h) (fun x hx => by
    obtain ⟨_, ⟨c, u, e, hl⟩, _⟩ := name_parts hx
    exact ⟨c, u, e, (let_no hl).1, (let_no hl).2.1⟩) hda hdb (agg_head a _) (agg_head b _) h
  obtain ⟨e2, e3, h3⟩ := cut_agg (check_parts ha).2.2.2.2.1 (check_parts hb).2.2.2.2.1 h2
  simp only [List.cons.injEq, true_and] at h3
  have na := (check_parts ha).1
  have nb := (check_parts hb).1
  obtain ⟨hd, ag, av, rs, os⟩ := a
  obtain ⟨hd', ag', av', rs', os'⟩ := b
  simp only at *
  match rs, na, rs', nb, ga, gb, h3, ha, hb with
  | x :: l, _, y :: m, _, ga, gb, h3, ha, hb =>
    have h4 : ruleS x ++ (flatB (l.map ruleS) ++ orderS os) = ruleS y ++ (flatB (m.map ruleS) ++ orderS os') := by
      have e : ∀ (x : Str) l, joinS barS (x :: l) = x ++ flatB l := fun _ _ => rfl
      rw [List.map_cons, List.map_cons, e, e, List.append_assoc, List.append_assoc] at h3
      exact h3
    obtain ⟨rfl, h5⟩ := cut_rule (ga x (List.mem_cons_self ..)) (gb y (List.mem_cons_self ..)) (stop_bar (orderS_end os)).1 (stop_bar (orderS_end os')).1 (stop_bar (orderS_end os)).2 (stop_bar (orderS_end os')).2 h4
    obtain ⟨rfl, h6⟩ := cut_bars (fun z hz => ga z (List.mem_cons_of_mem _ hz)) (fun z hz => gb z (List.mem_cons_of_mem _ hz)) (orderS_end os) (orderS_end os') h5
    have e4 : os = os' := orderS_inj (fun k hk => hda _ (order_names ha k hk)) (fun k hk => hdb _ (order_names hb k hk)) h6
    rw [e1, e2, e3, e4]
end

/-! ### PgB -/
section

/-- A token without its place. -/
abbrev Bt := Int × List UInt8 × V
def syB (s : Str) : Bt := (4, s, V0)
def kyB (s : Str) : Bt := (5, s, V0)
def nmB (s : Str) : Bt := (1, s, V0)
def ltB (v : V) : Bt := (if v.k = 1 then 2 else 3, textL v, v)
def enB : Bt := (0, [], V0)
/-- Scanned, wherever it stands. -/
def ScB (l : Str) (bs : List Bt) : Prop := ∃ ts, Sc l 0 ts ∧ ts.map Tok.bare = bs
theorem sh_bare (d : Int) (ts : List Tok) : (ts.map (Tok.sh d)).map Tok.bare = ts.map Tok.bare := by
  rw [List.map_map]; rfl
theorem ScB.nil : ScB [] [enB] := ⟨_, Sc.nil 0, rfl⟩
theorem ScB.white {c : UInt8} {r : Str} {bs : List Bt} (h : whtB c = true) (hs : ScB r bs) : ScB (c :: r) bs := by
  obtain ⟨ts, h1, h2⟩ := hs
  exact ⟨ts.map (Tok.sh 1), Sc.white h (h1.shift 1), by rw [sh_bare]; exact h2⟩
theorem ScB.tok {x r : Str} {k : Int} {v : V} {bs : List Bt} (hx : x ≠ []) (hw : whtB (x.getD 0 0) = false) (h : nextL (x ++ r) 0 = (⟨k, x, v, 0⟩, 0)) (hs : ScB r bs) : ScB (x ++ r) ((k, x, v) :: bs) := by
  obtain ⟨ts, h1, h2⟩ := hs
  refine ⟨⟨k, x, v, 0⟩ :: ts.map (Tok.sh x.length), Sc.tok (by simp [hx]) (by rw [getD0_app hx]; exact hw) h ?_, ?_⟩
  · simp only [List.drop_left]
    exact h1.shift x.length
  · rw [List.map_cons, sh_bare, h2]; rfl
theorem letQB {c : UInt8} : letQ c = letB c := rfl
theorem wrdQB {c : UInt8} (h : wrdQ c = true) : wrdB c = true := by
  unfold wrdQ at h
  unfold wrdB
  rw [show letQ c = letB c from rfl] at h
  unfold digB
  cases h1 : letB c <;> rw [h1] at h <;> simp at h ⊢
  rcases h with h | h
  · exact .inr h
  · exact .inl h
theorem stop_end {r : Str} (h : Stop r) : r = [] ∨ ∃ c u', r = c :: u' ∧ wrdB c = false := by
  cases r with
  | nil => exact .inl rfl
  | cons c u => exact .inr ⟨c, u, rfl, (stop_wrd (h c rfl)).2⟩
theorem keyQL : keyQ = keyL7 := rfl
theorem name_len {l : Str} (h : nameB l = true) : l.length ≤ 16 := by
  unfold nameB catB at h
  simp only [Bool.and_eq_true, Bool.not_eq_true', decide_eq_true_eq] at h
  exact h.2.2.1
theorem ScB.name {x r : Str} {bs : List Bt} (hx : nameB x = true) (hr : Stop r) (hs : ScB r bs) : ScB (x ++ r) (nmB x :: bs) := by
  obtain ⟨h1, ⟨c, t, e, h2⟩, h3⟩ := name_parts hx
  have hne : x ≠ [] := nameB_ne hx
  have hl : letB (x.getD 0 0) = true := by rw [e]; exact h2
  refine ScB.tok hne (let_not_wht hl) ?_ hs
  rw [next_word (fun c hc => wrdQB (h1 c hc)) hl 0 r (stop_end hr) hne, if_neg, if_neg]
  · have := name_len hx; omega
  · intro hk
    exact h3 (by rw [keyQL]; simpa using hk)
theorem ScB.key {x r : Str} {bs : List Bt} (hx : x ∈ keyL7) (hr : Stop r) (hs : ScB r bs) : ScB (x ++ r) (kyB x :: bs) := by
  obtain ⟨h1, h2, h3, _, h5, _⟩ := keys_words x hx
  refine ScB.tok h3 (let_not_wht h2) ?_ hs
  rw [next_word h1 h2 0 r (stop_end hr) h3, if_pos h5]
theorem ScB.lit {v : V} {r : Str} {bs : List Bt} (hv : v.valid = true) (hn : I64 v.n) (hr : Stop r) (hs : ScB r bs) : ScB (textL v ++ r) (ltB v :: bs) := by
  refine ScB.tok (textL_ne hv) (textL_head hv) ?_ hs
  rcases stop_end hr with rfl | ⟨c, u, rfl, hc⟩
  · have := nextL_text hv hn 32 (by decide) [] 0
    have h2 := nextL_cut 0 (by simp) this
    rw [List.append_nil]
    exact h2
  · exact nextL_text hv hn c hc u 0
theorem ScB.sym {x r : Str} {bs : List Bt} (h : nextL (x ++ r) 0 = (⟨4, x, V0, 0⟩, 0)) (hx : x ≠ []) (hw : whtB (x.getD 0 0) = false) (hs : ScB r bs) : ScB (x ++ r) (syB x :: bs) := ScB.tok hx hw h hs
theorem sb_open {r : Str} {bs : List Bt} (hs : ScB r bs) : ScB (40 :: r) (syB sOpen :: bs) := ScB.sym (x := [40]) (next_open r 0) (by decide) (by decide) hs
theorem sb_shut {r : Str} {bs : List Bt} (hs : ScB r bs) : ScB (41 :: r) (syB sShut :: bs) := ScB.sym (x := [41]) (next_close r 0) (by decide) (by decide) hs
theorem next_sep {c : UInt8} (hc : c = 44 ∨ c = 59 ∨ c = 124) (u : Str) (a : Int) : nextL (c :: u) a = (⟨4, [c], V0, a⟩, 0) := by
  rcases hc with rfl | rfl | rfl <;>
  · unfold nextL
    rw [if_neg (by simp [letB]), if_neg (by simp [numB, digB]), if_neg (by simp)]
    exact symTok_one a (by simp [symL])
theorem sb_comma {r : Str} {bs : List Bt} (hs : ScB r bs) : ScB (44 :: r) (syB sComma :: bs) := ScB.sym (x := [44]) (next_sep (.inl rfl) r 0) (by decide) (by decide) hs
theorem sb_semi {r : Str} {bs : List Bt} (hs : ScB r bs) : ScB (59 :: r) (syB sSemi :: bs) := ScB.sym (x := [59]) (next_sep (.inr (.inl rfl)) r 0) (by decide) (by decide) hs
theorem sb_bar {r : Str} {bs : List Bt} (hs : ScB r bs) : ScB (124 :: r) (syB sBar :: bs) := ScB.sym (x := [124]) (next_sep (.inr (.inr rfl)) r 0) (by decide) (by decide) hs
theorem sb_if {r : Str} {bs : List Bt} (hs : ScB r bs) : ScB (58 :: 45 :: 32 :: r) (syB sIf :: bs) := by
  refine ScB.sym (x := [58, 45]) (r := 32 :: r) ?_ (by decide) (by decide) (.white (by decide) hs)
  unfold nextL
  rw [if_neg (by simp [letB]), if_neg (by simp [numB, digB]), if_neg (by simp)]
  exact symTok_one 0 (by simp [symL])
theorem sb_op {o : Int} (h0 : 0 ≤ o) (h5 : o ≤ 5) {r : Str} {bs : List Bt} (hs : ScB r bs) : ScB (opS o ++ (32 :: r)) (syB (opS o) :: bs) := by
  have hs2 := ScB.white (c := 32) (by decide) hs
  rcases op_cases h0 h5 with rfl | rfl | rfl | rfl | rfl | rfl <;>
  · refine ScB.sym ?_ (by decide) (by decide) hs2
    unfold nextL
    rw [if_neg (by simp [opS, letB]), if_neg (by simp [opS, numB, digB]), if_neg (by simp [opS])]
    exact symTok_one 0 (by simp [opS, symL])

/-- The tokens of a query's parts. -/
def tksT (t : Trm) : Bt := if t.v = [] then ltB t.c else nmB t.v
def joinB {α : Type} (f : α → List Bt) (sep : Bt) : List α → List Bt
  | [] => []
  | x :: l => f x ++ l.flatMap fun y => sep :: f y
def tksA (a : Atm) : List Bt := (if a.neg = true then [kyB sNot] else []) ++ nmB a.rel :: syB sOpen :: (joinB (fun t => [tksT t]) (syB sComma) a.ts ++ [syB sShut])
def tksC (c : Cnd) : List Bt := [nmB c.v, syB (opS c.op), ltB c.c]
def tksR (r : Rul) : List Bt := joinB tksA (syB sComma) r.atoms ++ r.conds.flatMap fun c => syB sComma :: tksC c
def tksG (q : Qry) : List Bt := if q.agg = 1 then [syB sSemi, kyB sCount] else if q.agg = 2 then [syB sSemi, kyB sSum, nmB q.aggVar] else if q.agg = 3 then [syB sSemi, kyB sMin, nmB q.aggVar] else if q.agg = 4 then [syB sSemi, kyB sMax, nmB q.aggVar] else []
def tksH (q : Qry) : List Bt := nmB sAns :: syB sOpen :: (joinB (fun v => [nmB v]) (syB sComma) q.head ++ (tksG q ++ [syB sShut, syB sIf]))
def tksK (k : Ky) : List Bt := nmB k.v :: if k.desc = true then [kyB sDesc] else []
def tksO (l : List Ky) : List Bt := if l = [] then [] else kyB sOrder :: joinB tksK (syB sComma) l
def tksQ (q : Qry) : List Bt := tksH q ++ (joinB tksR (syB sBar) q.rules ++ (tksO q.order ++ [enB]))
section
variable {r : Str} {bs : List Bt}
theorem sb_term {t : Trm} (ht : t.good) (hr : Stop r) (hs : ScB r bs) : ScB (termS t ++ r) (tksT t :: bs) := by
  have h1 := ht.e
  unfold termS tksT
  by_cases h0 : t.v = []
  · rw [if_pos h0, if_pos h0]
    unfold termE at h1
    rw [if_pos h0] at h1
    have hv : t.c.valid = true := by
      split at h1
      · assumption
      · exact absurd h1 (by decide)
    exact ScB.lit hv ht.n hr hs
  · rw [if_neg h0, if_neg h0]
    exact ScB.name (termE_var h1 h0) hr hs
/-- Elements behind commas. -/
theorem sb_flat {α : Type} {f : α → Str} {g : α → List Bt} {G : α → Prop} (hf : ∀ x r bs, G x → Stop r → ScB r bs → ScB (f x ++ r) (g x ++ bs)) : ∀ (l : List α), (∀ x ∈ l, G x) → Stop r → ScB r bs → ScB (flatS (l.map f) ++ r) ((l.flatMap fun y => syB sComma :: g y) ++ bs)
  | [], _, _, hs => hs
  | x :: l, hG, hr, hs => by
    have ih := sb_flat hf l (fun y hy => hG y (List.mem_cons_of_mem _ hy)) hr hs
    have h1 := hf x _ _ (hG x (List.mem_cons_self ..)) (stop_flat (l := l.map f) hr) ih
    rw [List.map_cons, flat_cons, List.flatMap_cons]
    simp only [List.append_assoc, List.cons_append, comS, List.nil_append]
    exact sb_comma (.white (by decide) h1)
theorem sb_join {α : Type} {f : α → Str} {g : α → List Bt} {G : α → Prop} (hf : ∀ x r bs, G x → Stop r → ScB r bs → ScB (f x ++ r) (g x ++ bs)) (l : List α) (hG : ∀ x ∈ l, G x) (hr : Stop r) (hs : ScB r bs) : ScB (joinS comS (l.map f) ++ r) (joinB g (syB sComma) l ++ bs) := by
  cases l with
  | nil => exact hs
  | cons x l =>
    have ih := sb_flat hf l (fun y hy => hG y (List.mem_cons_of_mem _ hy)) hr hs
    have h1 := hf x _ _ (hG x (List.mem_cons_self ..)) (stop_flat (l := l.map f) hr) ih
    rw [List.map_cons, joinS_cons]
    simp only [joinB, List.append_assoc]
    exact h1
theorem sb_atom {a : Atm} (ha : a.good) (hs : ScB r bs) : ScB (atomS a ++ r) (tksA a ++ bs) := by
  have hj : ScB (a.rel ++ (40 :: (joinS comS (a.ts.map termS) ++ (41 :: r)))) (nmB a.rel :: syB sOpen :: (joinB (fun t => [tksT t]) (syB sComma) a.ts ++ (syB sShut :: bs))) := by
    refine ScB.name ha.rel (Stop.cons (by decide)) (sb_open ?_)
    refine sb_join (G := Trm.good) (fun x r bs hx hr hs => sb_term hx hr hs) a.ts ha.ts (Stop.cons (by decide)) (sb_shut hs)
  rw [atomS_eq]
  unfold atomT0 tksA
  cases a.neg with
  | false => simpa using hj
  | true =>
    have h2 := ScB.key (x := sNot) (by decide) (Stop.cons (by decide)) (ScB.white (c := 32) (by decide) hj)
    simpa [sNot] using h2
theorem sb_cond {c : Cnd} (hc : c.good) (hr : Stop r) (hs : ScB r bs) : ScB (condT0 c ++ r) (tksC c ++ bs) := by
  have h1 := ScB.name hc.v (Stop.cons (by decide)) (ScB.white (c := 32) (by decide) (sb_op hc.lo hc.hi (ScB.lit hc.ok hc.n hr hs)))
  unfold condT0 tksC
  simpa using h1
theorem sb_rule {x : Rul} (hx : x.good) (hr : Stop r) (hs : ScB r bs) : ScB (ruleS x ++ r) (tksR x ++ bs) := by
  unfold ruleS tksR
  rw [conds_flat, List.append_assoc, List.append_assoc]
  exact sb_join (G := Atm.good) (fun x r bs hx _ hs => sb_atom hx hs) x.atoms hx.atoms (stop_flat hr) (sb_flat (G := Cnd.good) (fun x r bs hx hr hs => sb_cond hx hr hs) x.conds hx.conds hr hs)
theorem sb_bars : ∀ (l : List Rul), (∀ x ∈ l, x.good) → OrdEnd r → ScB r bs → ScB (flatB (l.map ruleS) ++ r) ((l.flatMap fun y => syB sBar :: tksR y) ++ bs)
  | [], _, _, hs => hs
  | x :: l, hG, hr, hs => by
    have ih := sb_bars l (fun y hy => hG y (List.mem_cons_of_mem _ hy)) hr hs
    have h1 := sb_rule (hG x (List.mem_cons_self ..)) (stop_bar (l := l.map ruleS) hr).1 ih
    rw [List.map_cons, flatB_cons, List.flatMap_cons]
    simp only [List.append_assoc, List.cons_append, barS, List.nil_append]
    exact .white (by decide) (sb_bar (.white (by decide) h1))
theorem sb_key {k : Ky} (hk : nameB k.v = true) (hr : Stop r) (hs : ScB r bs) : ScB (keyS k ++ r) (tksK k ++ bs) := by
  unfold keyS tksK
  cases k.desc with
  | false => simpa using ScB.name hk hr hs
  | true =>
    have h2 := ScB.name hk (Stop.cons (by decide)) (ScB.white (c := 32) (by decide) (ScB.key (x := sDesc) (by decide) hr hs))
    simpa [sDesc] using h2
theorem sb_order {l : List Ky} (hl : ∀ k ∈ l, nameB k.v = true) : ScB (orderS l) (tksO l ++ [enB]) := by
  unfold orderS tksO
  by_cases h0 : l = []
  · rw [if_pos h0, if_pos h0]; exact ScB.nil
  · rw [if_neg h0, if_neg h0]
    have hj := sb_join (f := keyS) (g := tksK) (G := fun k => nameB k.v = true) (r := []) (fun x r bs hx hr hs => sb_key hx hr hs) l hl Stop.nil ScB.nil
    have h2 := ScB.white (c := 32) (by decide) (ScB.key (x := sOrder) (by decide) (Stop.cons (c := 32) (by decide)) (ScB.white (by decide) hj))
    simpa [sOrder] using h2
theorem sb_agg {q : Qry} (hq : aggE q = 0) (hs : ScB r bs) : ScB (aggS q ++ (41 :: r)) (tksG q ++ (syB sShut :: bs)) := by
  have h0 := sb_shut hs
  have key : ∀ {x : Str}, x ∈ keyL7 → nameB q.aggVar = true → ScB (59 :: 32 :: (x ++ (32 :: (q.aggVar ++ (41 :: r))))) (syB sSemi :: kyB x :: nmB q.aggVar :: syB sShut :: bs) := fun hx hn =>
    sb_semi (.white (by decide) (.key hx (Stop.cons (by decide)) (.white (by decide) (.name hn (Stop.cons (by decide)) h0))))
  unfold aggS tksG
  rcases agg_ways hq with ⟨h1 | h1, _⟩ | ⟨h1 | h1 | h1, h2⟩
  · rw [h1]; simpa using h0
  · rw [h1]
    have := sb_semi (ScB.white (c := 32) (by decide) (ScB.key (x := sCount) (by decide) (Stop.cons (by decide)) h0))
    simpa [sCount] using this
  · rw [h1]; simpa [sSum] using key (x := sSum) (by decide) h2
  · rw [h1]; simpa [sMin] using key (x := sMin) (by decide) h2
  · rw [h1]; simpa [sMax] using key (x := sMax) (by decide) h2
theorem stop_agg (q : Qry) (r : Str) : Stop (aggS q ++ (41 :: r)) := by
  obtain ⟨c, u, e, h⟩ := agg_head q r
  rw [e]
  refine Stop.cons ?_
  rcases h with rfl | rfl <;> decide
/-- The text of a valid query. -/
theorem sb_query {q : Qry} (hq : checkQ q = 0) (hw : q.wf) : ScB (textQ q) (tksQ q) := by
  have hd := (headE_zero (check_parts hq).2.2.2.1).2.1
  have hg : ∀ r ∈ q.rules, r.good := fun r hr => items_good (rule_items_zero (firstE_zero (check_parts hq).2.2.2.2.2.1 r hr)) (hw.rules r hr)
  have ho : ∀ k ∈ q.order, nameB k.v = true := fun k hk => hd _ (order_names hq k hk)
  have hne := (check_parts hq).1
  have h1 := sb_order ho
  have h2 : ScB (joinS barS (q.rules.map ruleS) ++ orderS q.order) (joinB tksR (syB sBar) q.rules ++ (tksO q.order ++ [enB])) := by
    match hr : q.rules, hne with
    | x :: l, _ =>
      rw [hr] at hg
      have e : ∀ (x : Str) l, joinS barS (x :: l) = x ++ flatB l := fun _ _ => rfl
      rw [List.map_cons, e]
      simp only [joinB, List.append_assoc]
      exact sb_rule (hg x (List.mem_cons_self ..)) (stop_bar (orderS_end q.order)).1 (sb_bars l (fun z hz => hg z (List.mem_cons_of_mem _ hz)) (orderS_end q.order) h1)
  have h3 := sb_agg (check_parts hq).2.2.2.2.1 (ScB.white (c := 32) (by decide) (sb_if h2))
  have h4 := sb_join (f := id) (g := fun v => [nmB v]) (G := fun v => nameB v = true) (fun x r bs hx hr hs => ScB.name hx hr hs) q.head hd (stop_agg q _) h3
  have h5 := ScB.name (x := sAns) (by decide) (Stop.cons (by decide)) (sb_open h4)
  unfold textQ Go.Proofs.YtnbacdmlaedppaaGreatDoor.headS tksQ tksH
  simpa [sAns] using h5
end
end

/-! ### PgC -/
section

/-- From i on the tokens are these. -/
def At (tk : Nat → Tok) (i : Nat) (bs : List Bt) : Prop := ∀ k (h : k < bs.length), (tk (i + k)).bare = bs[k]
section
variable {tk : Nat → Tok} {i : Nat}
theorem At.head {x : Bt} {b : List Bt} (h : At tk i (x :: b)) : (tk i).bare = x := h 0 (by simp)
theorem At.tail {x : Bt} {b : List Bt} (h : At tk i (x :: b)) : At tk (i + 1) b := fun k hk => by
  have := h (k + 1) (by simp; omega)
  rw [show i + (k + 1) = i + 1 + k by omega] at this
  simpa using this
theorem At.left {a b : List Bt} (h : At tk i (a ++ b)) : At tk i a := fun k hk => by
  have := h k (by simp; omega)
  rw [List.getElem_append_left hk] at this
  exact this
theorem At.right {a b : List Bt} (h : At tk i (a ++ b)) : At tk (i + a.length) b := fun k hk => by
  have := h (a.length + k) (by simp; omega)
  rw [List.getElem_append_right (by omega)] at this
  simp only [Nat.add_sub_cancel_left] at this
  rw [show i + a.length + k = i + (a.length + k) by omega]
  exact this
variable {t : Tok} {s u : Str} {v : V}
theorem at_sy (h : t.bare = syB s) : isT t u = (s == u) := by
  have h1 : t.k = 4 := congrArg (·.1) h
  have h2 : t.t = s := congrArg (·.2.1) h
  unfold isT; rw [h1, h2]; rfl
theorem at_ky (h : t.bare = kyB s) : isT t u = (s == u) := by
  have h1 : t.k = 5 := congrArg (·.1) h
  have h2 : t.t = s := congrArg (·.2.1) h
  unfold isT; rw [h1, h2]; rfl
theorem at_nm (h : t.bare = nmB s) : isT t u = false ∧ t.k = 1 ∧ t.t = s := by
  have h1 : t.k = 1 := congrArg (·.1) h
  have h2 : t.t = s := congrArg (·.2.1) h
  exact ⟨by unfold isT; rw [h1]; rfl, h1, h2⟩
theorem at_lt (h : t.bare = ltB v) : isT t u = false ∧ t.k ≠ 1 ∧ constT t = some v := by
  have h1 : t.k = if v.k = 1 then 2 else 3 := congrArg (·.1) h
  have h3 : t.v = v := congrArg (·.2.2) h
  have h4 : t.k = 2 ∨ t.k = 3 := by
    rw [h1]; split
    · exact .inl rfl
    · exact .inr rfl
  refine ⟨?_, ?_, ?_⟩
  · unfold isT; rcases h4 with h4 | h4 <;> rw [h4] <;> rfl
  · rcases h4 with h4 | h4 <;> rw [h4] <;> decide
  · unfold constT; rw [if_pos h4, h3]
theorem at_en (h : t.bare = enB) : isT t u = false ∧ t.k = 0 := by
  have h1 : t.k = 0 := congrArg (·.1) h
  exact ⟨by unfold isT; rw [h1]; rfl, h1⟩
theorem v_zero {v : V} (h1 : v.k = 0) (h2 : v.n = 0) (h3 : v.s.size = 0) : v = V0 := by
  obtain ⟨k, n, s⟩ := v
  simp only at h1 h2 h3
  subst h1 h2
  have : s = ⟨#[]⟩ := by
    obtain ⟨d⟩ := s
    have : d = #[] := Array.size_eq_zero_iff.1 h3
    rw [this]
  rw [this]; rfl
theorem at_term {x : Trm} (hx : x.good) (h : t.bare = tksT x) : termT t = some x := by
  have h1 := hx.e
  unfold tksT at h
  unfold termE at h1
  obtain ⟨xv, xc⟩ := x
  simp only at h h1
  by_cases h0 : xv = []
  · rw [if_pos h0] at h
    obtain ⟨_, h2, h3⟩ := at_lt (u := []) h
    unfold termT
    rw [if_neg h2, h3, h0]; rfl
  · rw [if_neg h0] at h h1
    obtain ⟨_, h2, h3⟩ := at_nm (u := []) h
    have : xc = V0 := by
      split at h1
      · exact absurd h1 (by decide)
      · split at h1
        · rename_i g; exact v_zero g.1 g.2.1 g.2.2
        · exact absurd h1 (by decide)
    unfold termT
    rw [if_pos h2, h3, this]
theorem tksT_not {x : Trm} (h : t.bare = tksT x) : isT t u = false := by
  unfold tksT at h
  split at h
  · exact (at_lt h).1
  · exact (at_nm h).1
end
section
variable {tk : Nat → Tok}
theorem termsS_at : ∀ (ts : List Trm) (t : Trm) (f i : Nat) (acc : List Trm), t.good → (∀ x ∈ ts, x.good) → At tk i (tksT t :: ((ts.flatMap fun y => syB sComma :: [tksT y]) ++ [syB sShut])) → ts.length < f → termsS tk f i acc = .ok (acc ++ t :: ts) (i + 2 * ts.length + 2)
  | [], t, f + 1, i, acc, ht, _, hA, _ => by
    unfold termsS
    rw [at_term ht hA.head]
    simp only
    have h1 := hA.tail.head
    rw [at_sy h1]
    simp
  | y :: l, t, f + 1, i, acc, ht, hl, hA, hf => by
    unfold termsS
    rw [at_term ht hA.head]
    simp only
    have hA1 : At tk (i + 1) (syB sComma :: tksT y :: ((l.flatMap fun y => syB sComma :: [tksT y]) ++ [syB sShut])) := hA.tail
    rw [at_sy hA1.head, at_sy hA1.head]
    rw [if_neg (by decide), if_pos (by decide)]
    have := termsS_at l y f (i + 2) (acc ++ [t]) (hl y (List.mem_cons_self ..)) (fun x hx => hl x (List.mem_cons_of_mem _ hx)) hA1.tail (by simp at hf; omega)
    rw [this]
    simp only [List.append_assoc, List.cons_append, List.nil_append, List.length_cons]
    congr 1 <;> omega
  | _, _, 0, _, _, _, _, _, hf => by omega
theorem flat2_len (ts : List Trm) : (ts.flatMap fun y => syB sComma :: [tksT y]).length = 2 * ts.length := by
  induction ts with
  | nil => rfl
  | cons x l ih => rw [List.flatMap_cons, List.length_append, ih]; simp; omega
theorem parenS_at (ts : List Trm) (f i : Nat) (hg : ∀ x ∈ ts, x.good) (hA : At tk i (joinB (fun t => [tksT t]) (syB sComma) ts ++ [syB sShut])) (hf : ts.length ≤ f) :
    parenS tk f i = .ok ts (i + (joinB (fun t => [tksT t]) (syB sComma) ts).length + 1) := by
  unfold parenS
  cases ts with
  | nil =>
    have h1 : (tk i).bare = syB sShut := hA.head
    rw [at_sy h1]
    simp [joinB]
  | cons t l =>
    have hA' : At tk i (tksT t :: ((l.flatMap fun y => syB sComma :: [tksT y]) ++ [syB sShut])) := hA
    rw [tksT_not hA'.head, if_neg (by decide), termsS_at l t f i [] (hg t (List.mem_cons_self ..)) (fun x hx => hg x (List.mem_cons_of_mem _ hx)) hA' (by simp only [List.length_cons] at hf; omega)]
    simp only [joinB, List.nil_append, List.cons_append, List.length_cons, flat2_len]
    congr 1 <;> omega
theorem tksA_len (a : Atm) : (tksA a).length = (if a.neg = true then 1 else 0) + 2 + (joinB (fun t => [tksT t]) (syB sComma) a.ts).length + 1 := by
  unfold tksA
  cases a.neg <;> simp <;> omega
theorem itemS_atom {a : Atm} (ha : a.good) (n i : Nat) (r : Rul) (hA : At tk i (tksA a)) (hn : a.ts.length ≤ n) :
    itemS tk n i r = .ok { r with atoms := r.atoms ++ [a] } (i + (tksA a).length) := by
  rw [tksA_len]
  obtain ⟨ng, rel, ts⟩ := a
  unfold tksA at hA
  simp only at hA hn ⊢
  unfold itemS
  have go : ∀ j, At tk j (nmB rel :: syB sOpen :: (joinB (fun t => [tksT t]) (syB sComma) ts ++ [syB sShut])) → (tk j).k = 1 ∧ (tk j).t = rel ∧ isT (tk j) sNot = false ∧ isT (tk (j + 1)) sOpen = true ∧ parenS tk n (j + 2) = .ok ts (j + 2 + (joinB (fun t => [tksT t]) (syB sComma) ts).length + 1) := fun j hj => by
    obtain ⟨h1, h2, h3⟩ := at_nm (u := sNot) hj.head
    refine ⟨h2, h3, h1, ?_, parenS_at ts n (j + 2) ha.ts hj.tail.tail hn⟩
    rw [at_sy hj.tail.head]; decide
  cases ng with
  | false =>
    obtain ⟨h1, h2, h3, h4, h5⟩ := go i hA
    simp only [h3, Bool.false_eq_true, if_false]
    rw [if_neg (by rw [h1]; decide), if_pos h4, h5, h2]
    simp only
    congr 1 <;> omega
  | true =>
    have hA' : At tk i (kyB sNot :: nmB rel :: syB sOpen :: (joinB (fun t => [tksT t]) (syB sComma) ts ++ [syB sShut])) := hA
    obtain ⟨h1, h2, h3, h4, h5⟩ := go (i + 1) hA'.tail
    have h0 : isT (tk i) sNot = true := by rw [at_ky hA'.head]; decide
    simp only [h0, if_true]
    rw [if_neg (by rw [h1]; decide), if_pos h4, h5, h2]
    simp only
    congr 1 <;> omega
theorem at_op {t : Tok} {o : Int} (h0 : 0 ≤ o) (h5 : o ≤ 5) (h : t.bare = syB (opS o)) : opT t = some o.toNat ∧ isT t sOpen = false := by
  unfold opT
  constructor
  · simp only [opsL, List.findIdx?_cons, at_sy h]
    rcases op_cases h0 h5 with rfl | rfl | rfl | rfl | rfl | rfl <;> decide
  · rw [at_sy h]
    rcases op_cases h0 h5 with rfl | rfl | rfl | rfl | rfl | rfl <;> decide
theorem itemS_cond {c : Cnd} (hc : c.good) (n i : Nat) (r : Rul) (hA : At tk i (tksC c)) : itemS tk n i r = .ok { r with conds := r.conds ++ [c] } (i + 3) := by
  unfold tksC at hA
  obtain ⟨h1, h2, h3⟩ := at_nm (u := sNot) hA.head
  obtain ⟨h4, h5⟩ := at_op hc.lo hc.hi hA.tail.head
  obtain ⟨_, _, h6⟩ := at_lt (u := []) hA.tail.tail.head
  unfold itemS
  simp only [h1, Bool.false_eq_true, if_false]
  rw [if_neg (by rw [h2]; decide), if_neg (by rw [h5]; decide), h4, h6, h3]
  simp only
  have : ((c.op.toNat : Nat) : Int) = c.op := Int.toNat_of_nonneg hc.lo
  rw [this]
theorem ruleG_conds : ∀ (cs : List Cnd) (c : Cnd) (n f i : Nat) (r : Rul), c.good → (∀ x ∈ cs, x.good) → At tk i (tksC c ++ cs.flatMap fun c => syB sComma :: tksC c) → isT (tk (i + 4 * cs.length + 3)) sComma = false → cs.length < f →
    ruleG tk n f i r = .ok { r with conds := r.conds ++ c :: cs } (i + 4 * cs.length + 3)
  | [], c, n, f + 1, i, r, hc, _, hA, he, _ => by
    unfold ruleG
    rw [itemS_cond hc n i r hA.left]
    simp only
    have : isT (tk (i + 3)) sComma = false := he
    rw [this]
    simp
  | y :: l, c, n, f + 1, i, r, hc, hl, hA, he, hf => by
    unfold ruleG
    rw [itemS_cond hc n i r hA.left]
    simp only
    have hA1 : At tk (i + 3) (syB sComma :: (tksC y ++ l.flatMap fun c => syB sComma :: tksC c)) := by
      have := hA.right
      simpa [tksC] using this
    rw [at_sy hA1.head, if_pos (by decide)]
    have := ruleG_conds l y n f (i + 3 + 1) { r with conds := r.conds ++ [c] } (hl y (List.mem_cons_self ..)) (fun x hx => hl x (List.mem_cons_of_mem _ hx)) hA1.tail (by
      rw [show i + 3 + 1 + 4 * l.length + 3 = i + 4 * (y :: l).length + 3 by simp; omega]; exact he) (by simp at hf; omega)
    rw [this]
    simp only [List.append_assoc, List.cons_append, List.nil_append, List.length_cons]
    congr 1 <;> omega
  | _, _, _, 0, _, _, _, _, _, _, hf => by omega
theorem flatC_len (cs : List Cnd) : (cs.flatMap fun c => syB sComma :: tksC c).length = 4 * cs.length := by
  induction cs with
  | nil => rfl
  | cons x l ih => rw [List.flatMap_cons, List.length_append, ih]; simp [tksC]; omega
theorem ruleG_atoms {n : Nat} {cs : List Cnd} (hcs : ∀ x ∈ cs, x.good) : ∀ (al : List Atm) (a : Atm) (f i : Nat) (r : Rul), a.good → (∀ x ∈ al, x.good) → (∀ x ∈ a :: al, x.ts.length ≤ n) → At tk i ((tksA a ++ al.flatMap fun y => syB sComma :: tksA y) ++ cs.flatMap fun c => syB sComma :: tksC c) →
    isT (tk (i + ((tksA a ++ al.flatMap fun y => syB sComma :: tksA y) ++ cs.flatMap fun c => syB sComma :: tksC c).length)) sComma = false → al.length + cs.length < f →
    ruleG tk n f i r = .ok ⟨r.atoms ++ a :: al, r.conds ++ cs⟩ (i + ((tksA a ++ al.flatMap fun y => syB sComma :: tksA y) ++ cs.flatMap fun c => syB sComma :: tksC c).length)
  | [], a, f + 1, i, r, ha, _, hn, hA, he, hf => by
    simp only [List.flatMap_nil, List.append_nil] at hA he ⊢
    unfold ruleG
    rw [itemS_atom ha n i r hA.left (hn a (List.mem_cons_self ..))]
    simp only
    cases cs with
    | nil =>
      simp only [List.flatMap_nil, List.append_nil] at he ⊢
      rw [he]; simp
    | cons c l =>
      have hA1 : At tk (i + (tksA a).length) (syB sComma :: (tksC c ++ l.flatMap fun c => syB sComma :: tksC c)) := hA.right
      rw [at_sy hA1.head, if_pos (by decide)]
      have e1 : i + (tksA a).length + 1 + 4 * l.length + 3 = i + (tksA a ++ (c :: l).flatMap fun c => syB sComma :: tksC c).length := by
        rw [List.length_append, flatC_len]; simp; omega
      rw [ruleG_conds l c n f (i + (tksA a).length + 1) _ (hcs c (List.mem_cons_self ..)) (fun x hx => hcs x (List.mem_cons_of_mem _ hx)) hA1.tail (by rw [e1]; exact he) (by simp at hf; omega), e1]
  | y :: l, a, f + 1, i, r, ha, hl, hn, hA, he, hf => by
    unfold ruleG
    rw [itemS_atom ha n i r hA.left.left (hn a (List.mem_cons_self ..))]
    simp only
    have hA1 : At tk (i + (tksA a).length) (syB sComma :: ((tksA y ++ l.flatMap fun y => syB sComma :: tksA y) ++ cs.flatMap fun c => syB sComma :: tksC c)) := by
      rw [List.append_assoc] at hA
      have := hA.right
      simpa using this
    rw [at_sy hA1.head, if_pos (by decide)]
    have e1 : i + (tksA a).length + 1 + ((tksA y ++ l.flatMap fun y => syB sComma :: tksA y) ++ cs.flatMap fun c => syB sComma :: tksC c).length = i + ((tksA a ++ (y :: l).flatMap fun y => syB sComma :: tksA y) ++ cs.flatMap fun c => syB sComma :: tksC c).length := by
      simp; omega
    rw [ruleG_atoms hcs l y f (i + (tksA a).length + 1) { r with atoms := r.atoms ++ [a] } (hl y (List.mem_cons_self ..)) (fun x hx => hl x (List.mem_cons_of_mem _ hx)) (fun x hx => hn x (List.mem_cons_of_mem _ hx)) hA1.tail (by rw [e1]; exact he) (by simp at hf; omega), e1]
    simp only [List.append_assoc, List.cons_append, List.nil_append]
  | _, _, 0, _, _, _, _, _, _, _, hf => by omega
/-- Room for a rule. -/
structure Room (n : Nat) (r : Rul) : Prop where
  a : r.atoms.length + r.conds.length ≤ n
  t : ∀ a ∈ r.atoms, a.ts.length ≤ n
theorem ruleG_at {n i : Nat} {r : Rul} (hr : r.good) (hn : Room n r) (hA : At tk i (tksR r)) (he : isT (tk (i + (tksR r).length)) sComma = false) : ruleG tk n n i ⟨[], []⟩ = .ok r (i + (tksR r).length) := by
  obtain ⟨al, cs⟩ := r
  unfold tksR at *
  have h1 := hr.ne
  have h2 := hr.atoms
  have h3 := hr.conds
  have h4 := hn.a
  have h5 := hn.t
  simp only at *
  cases al with
  | nil => exact absurd rfl h1
  | cons a l =>
    have := ruleG_atoms (n := n) h3 l a n i ⟨[], []⟩ (h2 a (List.mem_cons_self ..)) (fun x hx => h2 x (List.mem_cons_of_mem _ hx)) h5 hA he (by simp at h4; omega)
    exact this
theorem rulesS_at {n : Nat} : ∀ (l : List Rul) (r : Rul) (f i : Nat) (acc : List Rul), r.good → (∀ x ∈ l, x.good) → Room n r → (∀ x ∈ l, Room n x) → At tk i (tksR r ++ l.flatMap fun y => syB sBar :: tksR y) →
    isT (tk (i + (tksR r ++ l.flatMap fun y => syB sBar :: tksR y).length)) sComma = false → isT (tk (i + (tksR r ++ l.flatMap fun y => syB sBar :: tksR y).length)) sBar = false → l.length < f →
    rulesS tk n f i acc = .ok (acc ++ r :: l) (i + (tksR r ++ l.flatMap fun y => syB sBar :: tksR y).length)
  | [], r, f + 1, i, acc, hr, _, hn, _, hA, he, hb, _ => by
    simp only [List.flatMap_nil, List.append_nil] at hA he hb ⊢
    unfold rulesS
    rw [ruleG_at hr hn hA he]
    simp only
    rw [hb]; simp
  | y :: l, r, f + 1, i, acc, hr, hl, hn, hnl, hA, he, hb, hf => by
    unfold rulesS
    have hA1 : At tk (i + (tksR r).length) (syB sBar :: (tksR y ++ l.flatMap fun y => syB sBar :: tksR y)) := hA.right
    rw [ruleG_at hr hn hA.left (by rw [at_sy hA1.head]; decide)]
    simp only
    rw [at_sy hA1.head, if_pos (by decide)]
    have e1 : i + (tksR r).length + 1 + (tksR y ++ l.flatMap fun y => syB sBar :: tksR y).length = i + (tksR r ++ (y :: l).flatMap fun y => syB sBar :: tksR y).length := by simp; omega
    rw [rulesS_at l y f (i + (tksR r).length + 1) (acc ++ [r]) (hl y (List.mem_cons_self ..)) (fun x hx => hl x (List.mem_cons_of_mem _ hx)) (hnl y (List.mem_cons_self ..)) (fun x hx => hnl x (List.mem_cons_of_mem _ hx)) hA1.tail (by rw [e1]; exact he) (by rw [e1]; exact hb) (by simp at hf; omega), e1]
    simp only [List.append_assoc, List.cons_append, List.nil_append]
  | _, _, 0, _, _, _, _, _, _, _, _, _, hf => by omega
theorem namesS_at : ∀ (l : List Str) (x : Str) (f i : Nat) (acc : List Str), At tk i (nmB x :: l.flatMap fun y => [syB sComma, nmB y]) → isT (tk (i + 2 * l.length + 1)) sComma = false → l.length < f → namesS tk f i acc = .ok (acc ++ x :: l) (i + 2 * l.length + 1)
  | [], x, f + 1, i, acc, hA, he, _ => by
    obtain ⟨_, h2, h3⟩ := at_nm (u := sNot) hA.head
    unfold namesS
    have : isT (tk (i + 1)) sComma = false := he
    rw [if_neg (by rw [h2]; decide), this, h3]; simp
  | y :: l, x, f + 1, i, acc, hA, he, hf => by
    obtain ⟨_, h2, h3⟩ := at_nm (u := sNot) hA.head
    have hA1 : At tk (i + 1) (syB sComma :: nmB y :: l.flatMap fun y => [syB sComma, nmB y]) := hA.tail
    unfold namesS
    rw [if_neg (by rw [h2]; decide), at_sy hA1.head, if_pos (by decide), h3]
    rw [namesS_at l y f (i + 2) (acc ++ [x]) hA1.tail (by rw [show i + 2 + 2 * l.length + 1 = i + 2 * (y :: l).length + 1 by simp; omega]; exact he) (by simp at hf; omega)]
    simp only [List.append_assoc, List.cons_append, List.nil_append, List.length_cons]
    congr 1 <;> omega
  | _, _, 0, _, _, _, _, hf => by omega
theorem flatN_len (l : List Str) : (l.flatMap fun y => [syB sComma, nmB y]).length = 2 * l.length := by
  induction l with
  | nil => rfl
  | cons x l ih => rw [List.flatMap_cons, List.length_append, ih]; simp; omega
theorem aggG_at {q : Qry} (hq : aggE q = 0) {i : Nat} (h : List Str) (hA : At tk i (tksG q ++ [syB sShut, syB sIf])) :
    semiS tk i ⟨h, 0, [], [], []⟩ = .ok ⟨h, q.agg, q.aggVar, [], []⟩ (i + (tksG q).length + 2) := by
  have fin : ∀ (j : Nat) (x : Qry), At tk j [syB sShut, syB sIf] → endS tk j x = .ok x (j + 2) := fun j x hj => by
    unfold endS
    rw [at_sy hj.head, if_pos (by decide), at_sy hj.tail.head, if_pos (by decide)]
  have key : ∀ (x : Str) (a : Int), (∀ t : Tok, t.bare = kyB x → isT t sCount = false ∧ aggT t = some a) → At tk i (syB sSemi :: kyB x :: nmB q.aggVar :: [syB sShut, syB sIf]) → semiS tk i ⟨h, 0, [], [], []⟩ = .ok ⟨h, a, q.aggVar, [], []⟩ (i + 3 + 2) := fun x a hx hj => by
    unfold semiS
    rw [at_sy hj.head, if_pos (by decide)]
    unfold aggG
    obtain ⟨h1, h2⟩ := hx _ hj.tail.head
    obtain ⟨_, h3, h4⟩ := at_nm (u := sNot) hj.tail.tail.head
    rw [h1, if_neg (by decide), h2]
    simp only
    rw [if_neg (by rw [h3]; decide), h4]
    simp only
    rw [fin _ _ hj.tail.tail.tail]
  unfold tksG at *
  rcases agg_ways hq with ⟨h1 | h1, h2⟩ | ⟨h1 | h1 | h1, h2⟩
  · rw [h1] at hA ⊢
    rw [h2]
    simp only [show ¬ ((0 : Int) = 1) by decide, show ¬ ((0 : Int) = 2) by decide, show ¬ ((0 : Int) = 3) by decide, show ¬ ((0 : Int) = 4) by decide, if_false, List.nil_append] at hA ⊢
    unfold semiS
    rw [at_sy hA.head, if_neg (by decide), fin _ _ hA]
    rfl
  · rw [h1] at hA ⊢
    rw [h2]
    simp only [if_true] at hA ⊢
    have hA' : At tk i (syB sSemi :: kyB sCount :: [syB sShut, syB sIf]) := hA
    unfold semiS
    rw [at_sy hA'.head, if_pos (by decide)]
    unfold aggG
    rw [at_ky hA'.tail.head, if_pos (by decide)]
    simp only
    rw [fin _ _ hA'.tail.tail]
    rfl
  · rw [h1] at hA ⊢
    exact key sSum 2 (fun t ht => by unfold aggT; simp only [at_ky ht]; decide) hA
  · rw [h1] at hA ⊢
    exact key sMin 3 (fun t ht => by unfold aggT; simp only [at_ky ht]; decide) hA
  · rw [h1] at hA ⊢
    exact key sMax 4 (fun t ht => by unfold aggT; simp only [at_ky ht]; decide) hA
theorem tksG_ends {q : Qry} {i : Nat} (hA : At tk i (tksG q ++ [syB sShut, syB sIf])) : isT (tk i) sComma = false ∧ (tk i).k ≠ 1 := by
  have key : ∀ (x : Bt) (l : List Bt), (x = syB sSemi ∨ x = syB sShut) → At tk i (x :: l) → isT (tk i) sComma = false ∧ (tk i).k ≠ 1 := fun x l hx hj => by
    have h1 := hj.head
    have h2 : (tk i).k = x.1 := congrArg (·.1) h1
    rcases hx with rfl | rfl
    · exact ⟨by rw [at_sy h1]; decide, by rw [h2]; decide⟩
    · exact ⟨by rw [at_sy h1]; decide, by rw [h2]; decide⟩
  unfold tksG at hA
  split at hA
  · exact key _ _ (.inl rfl) hA
  split at hA
  · exact key _ _ (.inl rfl) hA
  split at hA
  · exact key _ _ (.inl rfl) hA
  split at hA
  · exact key _ _ (.inl rfl) hA
  · exact key _ _ (.inr rfl) hA
theorem headG_at {q : Qry} (hq : aggE q = 0) {n : Nat} (hn : q.head.length ≤ n) (hA : At tk 0 (tksH q)) : headG tk n = .ok ⟨q.head, q.agg, q.aggVar, [], []⟩ (tksH q).length := by
  obtain ⟨_, h1, h2⟩ := at_nm (u := sNot) hA.head
  have h3 := hA.tail.head
  have hA2 : At tk 2 (joinB (fun v => [nmB v]) (syB sComma) q.head ++ (tksG q ++ [syB sShut, syB sIf])) := hA.tail.tail
  have hl : (tksH q).length = 2 + (joinB (fun v => [nmB v]) (syB sComma) q.head).length + (tksG q).length + 2 := by
    unfold tksH; simp; omega
  rw [hl]
  unfold headG
  rw [if_neg (by rw [h1, h2]; simp), at_sy h3, if_neg (by decide)]
  cases hh : q.head with
  | nil =>
    rw [hh] at hA2
    have hA3 : At tk 2 (tksG q ++ [syB sShut, syB sIf]) := hA2
    rw [if_neg (tksG_ends hA3).2, aggG_at hq [] hA3]
    simp [joinB]
  | cons x l =>
    rw [hh] at hA2 hn
    have hA3 : At tk 2 ((nmB x :: l.flatMap fun y => [syB sComma, nmB y]) ++ (tksG q ++ [syB sShut, syB sIf])) := hA2
    obtain ⟨_, g1, _⟩ := at_nm (u := sNot) hA3.left.head
    have hA4 : At tk (2 + 2 * l.length + 1) (tksG q ++ [syB sShut, syB sIf]) := by
      have := hA3.right
      rw [List.length_cons, flatN_len] at this
      rw [show 2 + 2 * l.length + 1 = 2 + (2 * l.length + 1) by omega]
      exact this
    rw [if_pos g1, namesS_at l x n 2 [] hA3.left (tksG_ends hA4).1 (by simp only [List.length_cons] at hn; omega)]
    simp only [List.nil_append]
    rw [aggG_at hq (x :: l) hA4]
    have : (joinB (fun v => [nmB v]) (syB sComma) (x :: l)).length = 2 * l.length + 1 := by
      show ([nmB x] ++ l.flatMap fun y => [syB sComma, nmB y]).length = _
      rw [List.length_append, flatN_len]; simp; omega
    rw [this]
    congr 1
theorem keyS_tail {l : List Ky} {i : Nat} (hA : At tk i ((l.flatMap fun y => syB sComma :: tksK y) ++ [enB])) : isT (tk i) sDesc = false := by
  cases l with
  | nil => exact (at_en hA.head).1
  | cons y l => rw [at_sy hA.head]; decide
theorem keysS_at : ∀ (l : List Ky) (k : Ky) (f i : Nat) (acc : List Ky), At tk i ((tksK k ++ l.flatMap fun y => syB sComma :: tksK y) ++ [enB]) → l.length < f → keysS tk f i acc = .ok (acc ++ k :: l) (i + (tksK k ++ l.flatMap fun y => syB sComma :: tksK y).length)
  | l, ⟨v, d⟩, f + 1, i, acc, hA, hf => by
    obtain ⟨j, hj⟩ : ∃ j, j = i + (tksK ⟨v, d⟩).length := ⟨_, rfl⟩
    have hA1 : At tk j ((l.flatMap fun y => syB sComma :: tksK y) ++ [enB]) := by
      rw [List.append_assoc] at hA
      rw [hj]; exact hA.right
    have h0 := hA.left.left
    obtain ⟨_, h1, h2⟩ := at_nm (u := sNot) h0.head
    have hd : isT (tk (i + 1)) sDesc = d ∧ (if isT (tk (i + 1)) sDesc = true then i + 2 else i + 1) = j := by
      cases d with
      | true =>
        have : isT (tk (i + 1)) sDesc = true := by
          have h3 : At tk (i + 1) [kyB sDesc] := h0.tail
          rw [at_ky h3.head]; decide
        exact ⟨this, by rw [if_pos this, hj]; rfl⟩
      | false =>
        have : isT (tk (i + 1)) sDesc = false := by
          have e : i + 1 = j := by rw [hj]; rfl
          rw [e]; exact keyS_tail hA1
        exact ⟨this, by rw [if_neg (by rw [this]; decide), hj]; rfl⟩
    unfold keysS
    simp only
    rw [if_neg (by rw [h1]; decide), hd.2, hd.1, h2]
    show (if isT (tk j) sComma = true then keysS tk f (j + 1) (acc ++ [⟨v, d⟩]) else .ok (acc ++ [⟨v, d⟩]) j) = _
    match l, hA, hA1, hf with
    | [], hA, hA1, _ =>
      rw [(at_en hA1.head).1, if_neg (by decide), hj]
      simp
    | y :: l, hA, hA1, hf =>
      have hA2 : At tk j (syB sComma :: ((tksK y ++ l.flatMap fun y => syB sComma :: tksK y) ++ [enB])) := by simpa using hA1
      rw [at_sy hA2.head, if_pos (by decide), keysS_at l y f (j + 1) (acc ++ [(⟨v, d⟩ : Ky)]) hA2.tail (by simp at hf; omega), hj]
      simp only [List.append_assoc, List.cons_append, List.nil_append, List.flatMap_cons, List.length_append, List.length_cons]
      congr 1 <;> omega
  | _, _, 0, _, _, _, hf => by omega
theorem tksO_start {l : List Ky} {i : Nat} (hA : At tk i (tksO l ++ [enB])) : isT (tk i) sComma = false ∧ isT (tk i) sBar = false := by
  unfold tksO at hA
  split at hA
  · exact ⟨(at_en hA.head).1, (at_en hA.head).1⟩
  · have := At.head hA
    exact ⟨by rw [at_ky this]; decide, by rw [at_ky this]; decide⟩
/-- Room for a query. -/
structure RoomQ (n : Nat) (q : Qry) : Prop where
  h : q.head.length ≤ n
  r : q.rules.length ≤ n
  o : q.order.length ≤ n
  s : ∀ r ∈ q.rules, Room n r
theorem queryS_at {q : Qry} (hq : checkQ q = 0) (hw : q.wf) {n : Nat} (hn : RoomQ n q) (hA : At tk 0 (tksQ q)) : ∃ m, queryS tk n = .ok q m ∧ (tk m).k = 0 := by
  have hg : ∀ r ∈ q.rules, r.good := fun r hr => items_good (rule_items_zero (firstE_zero (check_parts hq).2.2.2.2.2.1 r hr)) (hw.rules r hr)
  have hne := (check_parts hq).1
  have hag := (check_parts hq).2.2.2.2.1
  unfold tksQ at hA
  have h1 := headG_at hag hn.h hA.left
  have hA2 := hA.right
  obtain ⟨hd, ag, av, rs, os⟩ := q
  have hr := hn.r
  have ho := hn.o
  have hs := hn.s
  clear hn hq hw hag
  rw [Nat.zero_add] at hA2
  simp only at h1 hA2 hg hne hr ho hs ⊢
  match rs, hne, hg, hA2, hr, hs with
  | x :: l, _, hg, hA2, hr, hs =>
    have hA3 := hA2.right
    have hst := tksO_start hA3
    have h2 := rulesS_at l x n _ [] (hg x (List.mem_cons_self ..)) (fun y hy => hg y (List.mem_cons_of_mem _ hy)) (hs x (List.mem_cons_self ..)) (fun y hy => hs y (List.mem_cons_of_mem _ hy)) hA2.left hst.1 hst.2 (by simp only [List.length_cons] at hr; omega)
    unfold queryS
    rw [h1]
    simp only
    have h1l : (tksH ⟨hd, ag, av, x :: l, os⟩).length = (tksH ⟨hd, ag, av, x :: l, os⟩).length := rfl
    rw [h2]
    simp only [List.nil_append]
    by_cases h0 : os = []
    · subst h0
      have he := at_en (u := sOrder) (At.head (b := []) hA3)
      rw [show (tksR x ++ l.flatMap fun y => syB sBar :: tksR y) = joinB tksR (syB sBar) (x :: l) from rfl, he.1, if_neg (by decide)]
      exact ⟨_, rfl, he.2⟩
    · have hA4 := hA3
      unfold tksO at hA4
      rw [if_neg h0, List.cons_append] at hA4
      rw [show (tksR x ++ l.flatMap fun y => syB sBar :: tksR y) = joinB tksR (syB sBar) (x :: l) from rfl, at_ky hA4.head, if_pos (by decide)]
      match os, ho, hA4 with
      | k :: m, ho, hA4 =>
        rw [keysS_at m k n _ [] hA4.tail (by simp only [List.length_cons] at ho; omega)]
        have hA5 := hA4.tail.right
        exact ⟨_, rfl, (at_en (u := sOrder) hA5.head).2⟩
      | [], _, _ => exact absurd rfl h0
end
section
variable {α : Type} {f : α → List Bt} {sep : Bt}
theorem flatB_len (hf : ∀ x, 0 < (f x).length) (l : List α) : 2 * l.length ≤ (l.flatMap fun y => sep :: f y).length := by
  induction l with
  | nil => simp
  | cons x l ih => rw [List.flatMap_cons, List.length_append]; have := hf x; simp only [List.length_cons] at *; omega
theorem joinB_len (hf : ∀ x, 0 < (f x).length) (l : List α) : l.length ≤ (joinB f sep l).length := by
  cases l with
  | nil => simp
  | cons x l =>
    have := flatB_len (sep := sep) hf l
    have h0 := hf x
    simp only [joinB, List.length_append, List.length_cons]; omega
theorem joinB_mem {x : α} : ∀ {l : List α}, x ∈ l → (f x).length ≤ (joinB f sep l).length
  | y :: l, hx => by
    simp only [joinB, List.length_append]
    rcases List.mem_cons.1 hx with rfl | hx
    · omega
    · have : ∀ {l : List α}, x ∈ l → (f x).length ≤ (l.flatMap fun y => sep :: f y).length := by
        intro l hl
        induction l with
        | nil => cases hl
        | cons z l ih =>
          rw [List.flatMap_cons, List.length_append]
          rcases List.mem_cons.1 hl with rfl | hl
          · simp only [List.length_cons]; omega
          · have := ih hl; omega
      have := this hx
      omega
end
theorem tksA_pos (a : Atm) : 0 < (tksA a).length := by rw [tksA_len]; omega
theorem room_rule {r : Rul} : Room (tksR r).length r := by
  have h1 := joinB_len (sep := syB sComma) tksA_pos r.atoms
  refine ⟨by unfold tksR; rw [List.length_append, flatC_len]; omega, fun a ha => ?_⟩
  have h2 := joinB_mem (f := tksA) (sep := syB sComma) ha
  have h3 := joinB_len (f := fun t => [tksT t]) (sep := syB sComma) (fun _ => by simp) a.ts
  have h4 := tksA_len a
  unfold tksR
  rw [List.length_append]; omega
theorem Room.mono {n m : Nat} {r : Rul} (h : Room n r) (hm : n ≤ m) : Room m r := ⟨Nat.le_trans h.a hm, fun a ha => Nat.le_trans (h.t a ha) hm⟩
theorem room_query {q : Qry} (hg : ∀ r ∈ q.rules, r.atoms ≠ []) : RoomQ (tksQ q).length q := by
  have hl : (tksQ q).length = (tksH q).length + ((joinB tksR (syB sBar) q.rules).length + ((tksO q.order).length + 1)) := by
    unfold tksQ; simp
  have h1 := joinB_len (f := fun v => [nmB v]) (sep := syB sComma) (fun _ => by simp) q.head
  have h2 : (joinB (fun v => [nmB v]) (syB sComma) q.head).length ≤ (tksH q).length := by unfold tksH; simp; omega
  have h3 := joinB_len (f := tksK) (sep := syB sComma) (fun _ => by simp [tksK]) q.order
  have h4 : q.order.length ≤ (tksO q.order).length := by
    unfold tksO
    split
    · rename_i h; rw [h]; simp
    · simp only [List.length_cons]; omega
  have h5 : q.rules.length ≤ (joinB tksR (syB sBar) q.rules).length := by
    have key : ∀ l : List Rul, (∀ r ∈ l, r.atoms ≠ []) → l.length ≤ (l.flatMap fun y => syB sBar :: tksR y).length := by
      intro l hl
      induction l with
      | nil => simp
      | cons x l ih =>
        rw [List.flatMap_cons, List.length_append]
        have := ih (fun r hr => hl r (List.mem_cons_of_mem _ hr))
        simp only [List.length_cons]; omega
    match hr : q.rules with
    | [] => simp
    | x :: l =>
      rw [hr] at hg
      have h6 := key l (fun r hr => hg r (List.mem_cons_of_mem _ hr))
      have h7 : 0 < (tksR x).length := by
        have := joinB_len (sep := syB sComma) tksA_pos x.atoms
        have h8 : 0 < x.atoms.length := List.length_pos_iff.2 (hg x (List.mem_cons_self ..))
        unfold tksR; rw [List.length_append]; omega
      simp only [joinB, List.length_append, List.length_cons]; omega
  refine ⟨by omega, by omega, by omega, fun r hr => room_rule.mono ?_⟩
  have := joinB_mem (f := tksR) (sep := syB sBar) hr
  omega
/-- The text of a valid query is parsed to the query. -/
theorem back_query {q : Qry} (hq : checkQ q = 0) (hw : q.wf) (hl : (textQ q).length ≤ 65536) : ∃ ts, scanL (textQ q) = (ts, 0, 0) ∧ gramQ ts = (q, 0, 0) := by
  obtain ⟨ts, h1, h2⟩ := sb_query hq hw
  refine ⟨ts, scanL_sc hl h1, ?_⟩
  have hg : ∀ r ∈ q.rules, r.good := fun r hr => items_good (rule_items_zero (firstE_zero (check_parts hq).2.2.2.2.2.1 r hr)) (hw.rules r hr)
  have hr := room_query (q := q) (fun r hr => (hg r hr).ne)
  have hlen : ts.length = (tksQ q).length := by rw [← h2]; simp
  have hA : At (tkL ts) 0 (tksQ q) := fun k hk => by
    rw [Nat.zero_add, tkL_at (by omega)]
    have : (ts.map Tok.bare)[k]'(by simp; omega) = (tksQ q)[k] := by simp only [h2]
    simpa using this
  rw [← hlen] at hr
  obtain ⟨m, h3, h4⟩ := queryS_at hq hw hr hA
  unfold gramQ
  rw [h3]
  have : fullS (tkL ts) (.ok q m) = .ok q m := if_pos h4
  rw [this]
end

/-! ### PgF -/
section

theorem joinS_le {by' : Str} {n : Nat} : ∀ {l : List Str}, (∀ x ∈ l, x.length ≤ n) → (joinS by' l).length ≤ l.length * (n + by'.length)
  | [], _ => by simp [joinS]
  | x :: l, h => by
    have key : ∀ {m : List Str}, (∀ x ∈ m, x.length ≤ n) → (m.flatMap fun y => by' ++ y).length ≤ m.length * (n + by'.length) := by
      intro m
      induction m with
      | nil => intro _; simp
      | cons y m ih =>
        intro hm
        have h1 := hm y (List.mem_cons_self ..)
        have h2 := ih fun z hz => hm z (List.mem_cons_of_mem _ hz)
        simp only [List.flatMap_cons, List.length_append, List.length_cons, Nat.add_mul] at h2 ⊢
        omega
    have h1 := h x (List.mem_cons_self ..)
    have h2 := key fun z hz => h z (List.mem_cons_of_mem _ hz)
    simp only [joinS, List.length_append, List.length_cons, Nat.add_mul] at h2 ⊢
    omega
theorem joinS_le2 {by' : Str} {n m k : Nat} {l : List Str} (h : ∀ x ∈ l, x.length ≤ n) (hm : l.length ≤ m) (hk : m * (n + by'.length) ≤ k) : (joinS by' l).length ≤ k :=
  Nat.le_trans (joinS_le h) (Nat.le_trans (Nat.mul_le_mul_right _ hm) hk)
theorem flat_le {α : Type} {f : α → Str} {n : Nat} : ∀ {l : List α}, (∀ x ∈ l, (f x).length ≤ n) → (l.flatMap f).length ≤ l.length * n
  | [], _ => by simp
  | x :: l, h => by
    have h1 := h x (List.mem_cons_self ..)
    have h2 := flat_le (l := l) fun z hz => h z (List.mem_cons_of_mem _ hz)
    simp only [List.flatMap_cons, List.length_append, List.length_cons, Nat.add_mul] at h2 ⊢
    omega
theorem textL_few {v : V} (hv : v.valid = true) (hn : I64 v.n) : (textL v).length ≤ 100 := by
  unfold textL
  rw [if_pos hv]
  split
  · have := Lib.itoa_length_le v.n hn.1 hn.2; omega
  · rename_i h1
    have := quoteL_le v.s.data.toList
    have hs : v.s.size ≤ 24 := by
      unfold V.valid at hv
      rw [if_neg h1] at hv
      split at hv
      · simp only [Bool.and_eq_true, decide_eq_true_eq] at hv; exact hv.2
      · cases hv
    have hs : v.s.data.toList.length ≤ 24 := by simpa using hs
    omega
theorem termS_le {t : Trm} (h : termE t = 0) (hn : I64 t.c.n) : (termS t).length ≤ 100 := by
  unfold termS
  split
  · rename_i h0
    unfold termE at h
    rw [if_pos h0] at h
    split at h
    · rename_i hv; exact textL_few hv hn
    · exact absurd h (by decide)
  · rename_i h0
    have := name_len (termE_var h h0)
    omega
theorem atomS_le {a : Atm} (h : atomE a = 0) (hn : ∀ t ∈ a.ts, I64 t.c.n) : (atomS a).length ≤ 640 := by
  unfold atomE at h
  by_cases k0 : nameB a.rel = false
  · rw [if_pos k0] at h; exact absurd h (by decide)
  rw [if_neg k0] at h
  by_cases k1 : 6 < a.ts.length
  · rw [if_pos k1] at h; exact absurd h (by decide)
  rw [if_neg k1] at h
  have h1 := name_len (l := a.rel) (by simpa using k0)
  have h2 : (joinS comS (a.ts.map termS)).length ≤ 612 := joinS_le2 (n := 100) (m := 6) (fun x hx => by
    obtain ⟨t, ht, rfl⟩ := List.mem_map.1 hx
    exact termS_le (firstE_zero h t ht) (hn t ht)) (by simpa using k1) (by decide)
  have h3 : (if a.neg = true then ([110, 111, 116, 32] : Str) else []).length ≤ 4 := by split <;> decide
  unfold atomS
  simp only [List.length_append, List.length_cons, List.length_nil]
  omega
theorem condS_le {c : Cnd} (h : condE c = 0) (hn : I64 c.c.n) : (condS c).length ≤ 130 := by
  have h1 := name_len (condE_var h)
  unfold condE at h
  split at h
  · exact absurd h (by decide)
  split at h
  · exact absurd h (by decide)
  split at h
  · rename_i hv
    have h2 := textL_few hv hn
    have h3 : (opS c.op).length ≤ 2 := by unfold opS; repeat' split <;> try decide
    have h4 : comS.length = 2 := rfl
    unfold condS
    simp only [List.length_append, List.length_cons, List.length_nil]
    omega
  · exact absurd h (by decide)
theorem ruleS_le {r : Rul} (h : itemsE r = 0) (hw : r.wf) : (ruleS r).length ≤ 6200 := by
  have hf := few_of_items h
  unfold itemsE at h
  by_cases g0 : r.atoms = []
  · rw [if_pos g0] at h; exact absurd h (by decide)
  rw [if_neg g0] at h
  by_cases g1 : 8 < r.atoms.length ∨ 8 < r.conds.length
  · rw [if_pos g1] at h; exact absurd h (by decide)
  rw [if_neg g1] at h
  by_cases g2 : firstE atomE r.atoms = 0
  · rw [if_pos g2] at h
    have h1 : (joinS comS (r.atoms.map atomS)).length ≤ 5136 := joinS_le2 (n := 640) (m := 8) (fun x hx => by
      obtain ⟨a, ha, rfl⟩ := List.mem_map.1 hx
      exact atomS_le (firstE_zero g2 a ha) (fun t ht => (((hw.atoms a ha).ts t ht).c).n)) (by simpa using hf.a) (by decide)
    have h2 : (r.conds.flatMap condS).length ≤ 8 * 130 := Nat.le_trans (flat_le (n := 130) fun c hc => condS_le (firstE_zero h c hc) ((hw.conds c hc).c).n) (Nat.mul_le_mul_right _ hf.c)
    unfold ruleS
    simp only [List.length_append]
    omega
  · rw [if_neg g2] at h; exact absurd h g2
theorem order_nodup : ∀ {hd : List Str} {l : List Ky} {pre : List Str}, orderGo hd pre l = 0 → pre.Nodup → (pre ++ l.map (·.v)).Nodup
  | _, [], pre, _, h => by simpa using h
  | hd, k :: l, pre, h, hp => by
    unfold orderGo at h
    split at h
    · split at h
      · exact absurd h (by decide)
      · rename_i hv
        have := order_nodup h (by
          rw [List.nodup_append]
          exact ⟨hp, by simp, fun a ha b hb => by rw [List.mem_singleton] at hb; subst hb; rintro rfl; exact hv ha⟩)
        simpa using this
    · exact absurd h (by decide)
theorem nodup_fewS : ∀ {l m : List Str}, l.Nodup → (∀ x ∈ l, x ∈ m) → l.length ≤ m.length
  | [], _, _, _ => by simp
  | x :: l, m, hl, h => by
    rw [List.nodup_cons] at hl
    have hx := h x (List.mem_cons_self ..)
    have h1 := nodup_fewS (l := l) (m := m.erase x) hl.2 fun y hy => by
      have hne : y ≠ x := fun e => hl.1 (e ▸ hy)
      exact (List.mem_erase_of_ne hne).2 (h y (List.mem_cons_of_mem _ hy))
    rw [List.length_erase_of_mem hx] at h1
    have := List.length_pos_of_mem hx
    simp only [List.length_cons]; omega
theorem order_few {q : Qry} (h : checkQ q = 0) : q.order.length ≤ 6 := by
  have h1 := order_nodup (hd := q.head) (pre := []) (check_parts h).2.2.2.2.2.2 (by simp)
  have h2 := nodup_fewS (m := q.head) h1 (fun x hx => by
    rw [List.nil_append] at hx
    obtain ⟨k, hk, rfl⟩ := List.mem_map.1 hx
    exact order_names h k hk)
  have h3 := (headE_zero (check_parts h).2.2.2.1).1
  simp only [List.nil_append, List.length_map] at h2
  omega
/-- The text of a valid query has fewer than 20000 bytes. -/
theorem textQ_le {q : Qry} (h : checkQ q = 0) (hw : q.wf) : (textQ q).length ≤ 20000 := by
  obtain ⟨p1, p2, p3, p4, p5, p6, p7⟩ := check_parts h
  have hz := headE_zero p4
  have h1 : (joinS comS q.head).length ≤ 108 := joinS_le2 (n := 16) (m := 6) (fun x hx => name_len (hz.2.1 x hx)) hz.1 (by decide)
  have h2 : (aggS q).length ≤ 30 := by
    unfold aggS
    have h0 : q.aggVar.length ≤ 16 := by
      rcases agg_ways p5 with ⟨_, e⟩ | ⟨_, e⟩
      · rw [e]; simp
      · exact name_len e
    repeat' split
    all_goals simp only [List.length_append, List.length_cons, List.length_nil]
    all_goals omega
  have h3 : (joinS barS (q.rules.map ruleS)).length ≤ 18609 := joinS_le2 (n := 6200) (m := 3) (fun x hx => by
    obtain ⟨r, hr, rfl⟩ := List.mem_map.1 hx
    exact ruleS_le (rule_items_zero (firstE_zero p6 r hr)) (hw.rules r hr)) (by simpa using p2) (by decide)
  have h4 : (orderS q.order).length ≤ 150 := by
    have g1 : (joinS comS (q.order.map keyS)).length ≤ 138 := joinS_le2 (n := 21) (m := 6) (fun x hx => by
      obtain ⟨k, hk, rfl⟩ := List.mem_map.1 hx
      have := name_len (hz.2.1 _ (order_names h k hk))
      have g2 : (if k.desc = true then ([32, 100, 101, 115, 99] : Str) else []).length ≤ 5 := by split <;> decide
      unfold keyS
      simp only [List.length_append]
      omega) (by simpa using order_few h) (by decide)
    unfold orderS
    split
    · simp
    · simp only [List.length_append, List.length_cons, List.length_nil]
      omega
  unfold textQ headS
  simp only [List.length_append, List.length_cons, List.length_nil]
  omega
end
end Go.Proofs.YtnbacdmlaedppaaGreatDoor
