/-
  PLAIN: two valid queries with one text form are one query. For the law AstTexts.
-/
import Derived.Test.YtgeapgbebbapmaaDoorTxt
import Derived.Test.YtgeapgbebbapmaaDoorAst12
import Derived.Test.YtgeapgbebbapmaaDoorLex4
namespace Go.Proofs.YtgeapgbebbapmaaDoor

theorem cutP {p : UInt8 → Bool} : ∀ {a b r s : Str}, (∀ x ∈ a, p x = true) → (∀ x ∈ b, p x = true) → (∀ x, r.head? = some x → p x = false) → (∀ x, s.head? = some x → p x = false) → a ++ r = b ++ s → a = b ∧ r = s
  | [], [], r, s, _, _, _, _, h => ⟨rfl, h⟩
  | [], y :: b, r, s, _, hb, hr, _, h => by
    simp only [List.nil_append, List.cons_append] at h
    subst h
    have := hr y rfl
    rw [hb y (List.mem_cons_self ..)] at this; cases this
  | x :: a, [], r, s, ha, _, _, hs, h => by
    simp only [List.nil_append, List.cons_append] at h
    subst h
    have := hs x rfl
    rw [ha x (List.mem_cons_self ..)] at this; cases this
  | x :: a, y :: b, r, s, ha, hb, hr, hs, h => by
    simp only [List.cons_append, List.cons.injEq] at h
    obtain ⟨rfl, h⟩ := h
    obtain ⟨rfl, rfl⟩ := cutP (fun z hz => ha z (List.mem_cons_of_mem _ hz)) (fun z hz => hb z (List.mem_cons_of_mem _ hz)) hr hs h
    exact ⟨rfl, rfl⟩
/-- What may follow a name or a literal. -/
def stopB (x : UInt8) : Bool := x == 32 || (x == 40 || (x == 41 || (x == 44 || x == 59)))
def Stop (r : Str) : Prop := ∀ x, r.head? = some x → stopB x = true
theorem Stop.nil : Stop [] := fun x h => by cases h
theorem Stop.cons {c : UInt8} {r : Str} (h : stopB c = true) : Stop (c :: r) := fun x e => by
  simp only [List.head?_cons, Option.some.injEq] at e; subst e; exact h
theorem stop_wrd {x : UInt8} (h : stopB x = true) : wrdQ x = false ∧ wrdB x = false := by
  have key : ∀ i : Fin 256, stopB (UInt8.ofNat i.val) = true → wrdQ (UInt8.ofNat i.val) = false ∧ wrdB (UInt8.ofNat i.val) = false := by decide +kernel
  have := key ⟨x.toNat, x.toNat_lt⟩
  simp only [UInt8.ofNat_toNat] at this
  exact this h
theorem let_wrd {x : UInt8} (h : letQ x = true) : wrdQ x = true := by unfold wrdQ; rw [h]; rfl
theorem name_parts {l : Str} (h : nameB l = true) : (∀ x ∈ l, wrdQ x = true) ∧ (∃ c t, l = c :: t ∧ letQ c = true) ∧ l ∉ keyQ := by
  unfold nameB catB at h
  simp only [Bool.and_eq_true, Bool.not_eq_true', decide_eq_true_eq] at h
  obtain ⟨hk, h0, _, h1, h2⟩ := h
  refine ⟨?_, ?_, ?_⟩
  · match l, h0 with
    | c :: t, _ =>
      intro x hx
      rcases List.mem_cons.1 hx with rfl | hx
      · exact let_wrd h1
      · exact List.all_eq_true.1 h2 x hx
  · match l, h0 with
    | c :: t, _ => exact ⟨c, t, rfl, h1⟩
  · intro hm
    rw [← List.contains_iff_mem] at hm
    rw [hm] at hk; cases hk
theorem cut_name {a b r s : Str} (ha : nameB a = true) (hb : nameB b = true) (hr : Stop r) (hs : Stop s) (h : a ++ r = b ++ s) : a = b ∧ r = s :=
  cutP (name_parts ha).1 (name_parts hb).1 (fun x hx => (stop_wrd (hr x hx)).1) (fun x hx => (stop_wrd (hs x hx)).1) h
theorem lit_end {r : Str} (hr : Stop r) : ∃ c u, r ++ [32] = c :: u ∧ wrdB c = false := by
  cases r with
  | nil => exact ⟨32, [], rfl, (stop_wrd (by decide)).2⟩
  | cons c u => exact ⟨c, u ++ [32], rfl, (stop_wrd (hr c rfl)).2⟩
theorem cut_lit {a b : V} {r s : Str} (ha : a.valid = true) (hb : b.valid = true) (na : I64 a.n) (nb : I64 b.n) (hr : Stop r) (hs : Stop s) (h : textL a ++ r = textL b ++ s) : a = b ∧ r = s := by
  obtain ⟨c, u, e1, w1⟩ := lit_end hr
  obtain ⟨d, v, e2, w2⟩ := lit_end hs
  have h2 : textL a ++ (c :: u) = textL b ++ (d :: v) := by rw [← e1, ← e2, ← List.append_assoc, ← List.append_assoc, h]
  have n1 := nextL_text ha na c w1 u 0
  have n2 := nextL_text hb nb d w2 v 0
  rw [h2, n2] at n1
  have e : a = b := by
    have := congrArg (fun p => p.1) n1
    simp only at this
    injection this with _ _ h3 _
    exact h3.symm
  subst e
  exact ⟨rfl, List.append_cancel_left h⟩
/-- A literal does not begin with a letter. -/
theorem lit_head {v : V} (hv : v.valid = true) : ∃ c t, textL v = c :: t ∧ letQ c = false ∧ c ≠ 41 := by
  by_cases h1 : v.k = 1
  · rw [textL_int hv h1]
    have hb := itoa_bytes v.n
    have hne := itoa_ne_nil v.n
    match Lib.itoa v.n, hne, hb with
    | x :: r, _, hb =>
      have := hb x (List.mem_cons_self ..)
      refine ⟨x, r, rfl, ?_, fun e => ?_⟩
      · unfold letQ; simp; omega
      · subst e; revert this; decide
  · rw [textL_str hv h1]; exact ⟨34, _, rfl, by decide, by decide⟩
/-- A valid term. -/
structure Trm.good (t : Trm) : Prop where
  e : termE t = 0
  n : I64 t.c.n
theorem term_head {t : Trm} (h : t.good) : ∃ c u, termS t = c :: u ∧ c ≠ 41 := by
  unfold termS
  have h1 := h.e
  unfold termE at h1
  by_cases h0 : t.v = []
  · rw [if_pos h0] at h1 ⊢
    have hv : t.c.valid = true := by
      split at h1
      · assumption
      · exact absurd h1 (by decide)
    obtain ⟨c, u, e, _, e2⟩ := lit_head hv
    exact ⟨c, u, e, e2⟩
  · rw [if_neg h0]
    obtain ⟨_, ⟨c, u, e, h2⟩, _⟩ := name_parts (termE_var h.e h0)
    exact ⟨c, u, e, fun e => by subst e; revert h2; decide⟩
theorem cut_term {a b : Trm} {r s : Str} (ha : a.good) (hb : b.good) (hr : Stop r) (hs : Stop s) (h : termS a ++ r = termS b ++ s) : a = b ∧ r = s := by
  have key : ∀ {t : Trm}, t.good → (t.v = [] ∧ t.c.valid = true) ∨ (t.v ≠ [] ∧ nameB t.v = true ∧ t.c.k = 0 ∧ t.c.n = 0 ∧ t.c.s.size = 0) := by
    intro t ht
    have h1 := ht.e
    by_cases h0 : t.v = []
    · refine .inl ⟨h0, ?_⟩
      unfold termE at h1
      rw [if_pos h0] at h1
      split at h1
      · assumption
      · exact absurd h1 (by decide)
    · refine .inr ⟨h0, termE_var h1 h0, ?_⟩
      unfold termE at h1
      rw [if_neg h0, if_neg (by rw [termE_var ht.e h0]; decide)] at h1
      split at h1
      · assumption
      · exact absurd h1 (by decide)
  have veq : ∀ {x y : V}, (x.k = 0 ∧ x.n = 0 ∧ x.s.size = 0) → (y.k = 0 ∧ y.n = 0 ∧ y.s.size = 0) → x = y := by
    rintro ⟨k, n, s⟩ ⟨k', n', s'⟩ ⟨h1, h2, h3⟩ ⟨h4, h5, h6⟩
    simp only at *
    subst h1 h2 h4 h5
    have e1 : s.data.size = s'.data.size := by show s.size = s'.size; omega
    have : s = s' := ByteArray.ext (Array.ext e1 (fun i hi _ => absurd hi (by show ¬ i < s.size; omega)))
    rw [this]
  obtain ⟨av, ac⟩ := a
  obtain ⟨bv, bc⟩ := b
  unfold termS at h
  simp only at h
  rcases key ha with ⟨a1, a2⟩ | ⟨a1, a2, a3⟩
  · rcases key hb with ⟨b1, b2⟩ | ⟨b1, b2, b3⟩
    · simp only at a1 b1
      rw [if_pos a1, if_pos b1] at h
      obtain ⟨e, e2⟩ := cut_lit a2 b2 ha.n hb.n hr hs h
      simp only at e
      exact ⟨by rw [a1, b1, e], e2⟩
    · simp only at a1 b1
      rw [if_pos a1, if_neg b1] at h
      obtain ⟨c, u, e, hl, _⟩ := lit_head a2
      obtain ⟨_, ⟨d, v, e2, hl2⟩, _⟩ := name_parts b2
      simp only at e e2
      rw [e, e2] at h
      simp only [List.cons_append, List.cons.injEq] at h
      rw [h.1, hl2] at hl; cases hl
  · rcases key hb with ⟨b1, b2⟩ | ⟨b1, b2, b3⟩
    · simp only at a1 b1
      rw [if_neg a1, if_pos b1] at h
      obtain ⟨c, u, e, hl, _⟩ := lit_head b2
      obtain ⟨_, ⟨d, v, e2, hl2⟩, _⟩ := name_parts a2
      simp only at e e2
      rw [e, e2] at h
      simp only [List.cons_append, List.cons.injEq] at h
      rw [← h.1, hl2] at hl; cases hl
    · simp only at a1 b1
      rw [if_neg a1, if_neg b1] at h
      obtain ⟨e, e2⟩ := cut_name a2 b2 hr hs h
      simp only at e
      have := veq a3 b3
      simp only at this
      exact ⟨by rw [e, this], e2⟩
/-- The tail of a joined list: ", " ahead of each. -/
def flatS (l : List Str) : Str := l.flatMap fun y => comS ++ y
theorem flat_cons (x : Str) (l : List Str) : flatS (x :: l) = comS ++ (x ++ flatS l) := by simp [flatS]
theorem joinS_cons (x : Str) (l : List Str) : joinS comS (x :: l) = x ++ flatS l := rfl
theorem stop_flat {l : List Str} {r : Str} (h : Stop r) : Stop (flatS l ++ r) := by
  cases l with
  | nil => exact h
  | cons x l => exact Stop.cons (by decide)
/-- A list whose items are cut, up to an end that does not begin with a comma. -/
theorem cut_flat {α : Type} {f : α → Str} {G : α → Prop} (hf : ∀ a b r s, G a → G b → Stop r → Stop s → f a ++ r = f b ++ s → a = b ∧ r = s) : ∀ {l m : List α} {r s : Str}, (∀ x ∈ l, G x) → (∀ x ∈ m, G x) → Stop r → Stop s → r.head? ≠ some 44 → s.head? ≠ some 44 → flatS (l.map f) ++ r = flatS (m.map f) ++ s → l = m ∧ r = s
  | [], [], r, s, _, _, _, _, _, _, h => ⟨rfl, h⟩
  | [], y :: m, r, s, _, _, _, _, h1, _, h => by
    rw [List.map_nil, List.map_cons, flat_cons] at h
    have : r = 44 :: (32 :: (f y ++ flatS (m.map f)) ++ s) := h
    rw [this] at h1; exact absurd rfl h1
  | x :: l, [], r, s, _, _, _, _, _, h1, h => by
    rw [List.map_nil, List.map_cons, flat_cons] at h
    have : s = 44 :: (32 :: (f x ++ flatS (l.map f)) ++ r) := h.symm
    rw [this] at h1; exact absurd rfl h1
  | x :: l, y :: m, r, s, hl, hm, hr, hs, h1, h2, h => by
    rw [List.map_cons, List.map_cons, flat_cons, flat_cons, List.append_assoc, List.append_assoc, List.append_assoc, List.append_assoc] at h
    have h3 := List.append_cancel_left h
    obtain ⟨rfl, h4⟩ := hf x y _ _ (hl x (List.mem_cons_self ..)) (hm y (List.mem_cons_self ..)) (stop_flat hr) (stop_flat hs) h3
    obtain ⟨rfl, rfl⟩ := cut_flat hf (fun z hz => hl z (List.mem_cons_of_mem _ hz)) (fun z hz => hm z (List.mem_cons_of_mem _ hz)) hr hs h1 h2 h4
    exact ⟨rfl, rfl⟩
/-- The same for the joined list: no item begins as the end does. -/
theorem cut_join {α : Type} {f : α → Str} {G : α → Prop} (hf : ∀ a b r s, G a → G b → Stop r → Stop s → f a ++ r = f b ++ s → a = b ∧ r = s) (hh : ∀ a, G a → ∃ c u, f a = c :: u ∧ c ≠ 41 ∧ c ≠ 59) {l m : List α} {r s : Str} (hl : ∀ x ∈ l, G x) (hm : ∀ x ∈ m, G x) (hr : ∃ c u, r = c :: u ∧ (c = 41 ∨ c = 59)) (hs : ∃ c u, s = c :: u ∧ (c = 41 ∨ c = 59)) (h : joinS comS (l.map f) ++ r = joinS comS (m.map f) ++ s) : l = m ∧ r = s := by
  obtain ⟨c, u, rfl, hc⟩ := hr
  obtain ⟨d, v, rfl, hd⟩ := hs
  have sr : Stop (c :: u) := Stop.cons (by rcases hc with rfl | rfl <;> decide)
  have ss : Stop (d :: v) := Stop.cons (by rcases hd with rfl | rfl <;> decide)
  have nr : (c :: u).head? ≠ some 44 := by rcases hc with rfl | rfl <;> simp
  have ns : (d :: v).head? ≠ some 44 := by rcases hd with rfl | rfl <;> simp
  cases l with
  | nil =>
    cases m with
    | nil => exact ⟨rfl, h⟩
    | cons y m =>
      obtain ⟨e, t, e1, e2, e3⟩ := hh y (hm y (List.mem_cons_self ..))
      rw [List.map_nil, List.map_cons, joinS_cons, e1] at h
      have h4 : c = e := by
        have := congrArg List.head? h
        simpa [joinS] using this
      subst h4
      rcases hc with rfl | rfl
      · exact absurd rfl e2
      · exact absurd rfl e3
  | cons x l =>
    cases m with
    | nil =>
      obtain ⟨e, t, e1, e2, e3⟩ := hh x (hl x (List.mem_cons_self ..))
      rw [List.map_nil, List.map_cons, joinS_cons, e1] at h
      have h4 : e = d := by
        have := congrArg List.head? h
        simpa [joinS] using this
      subst h4
      rcases hd with rfl | rfl
      · exact absurd rfl e2
      · exact absurd rfl e3
    | cons y m =>
      rw [List.map_cons, List.map_cons, joinS_cons, joinS_cons, List.append_assoc, List.append_assoc] at h
      obtain ⟨rfl, h4⟩ := hf x y _ _ (hl x (List.mem_cons_self ..)) (hm y (List.mem_cons_self ..)) (stop_flat sr) (stop_flat ss) h
      obtain ⟨rfl, h5⟩ := cut_flat hf (fun z hz => hl z (List.mem_cons_of_mem _ hz)) (fun z hz => hm z (List.mem_cons_of_mem _ hz)) sr ss nr ns h4
      exact ⟨rfl, h5⟩
/-- A valid atom. -/
structure Atm.good (a : Atm) : Prop where
  rel : nameB a.rel = true
  ts : ∀ t ∈ a.ts, t.good
theorem let_no {c : UInt8} (h : letQ c = true) : c ≠ 41 ∧ c ≠ 59 ∧ c ≠ 44 ∧ c ≠ 32 := by
  refine ⟨?_, ?_, ?_, ?_⟩ <;> (rintro rfl; revert h; decide)
theorem lit_no59 {v : V} (hv : v.valid = true) : (textL v).head? ≠ some 59 := by
  by_cases h1 : v.k = 1
  · rw [textL_int hv h1]
    have hb := itoa_bytes v.n
    intro e
    have := hb 59 (List.mem_of_mem_head? e)
    revert this; decide
  · rw [textL_str hv h1]; simp [quoteL]
theorem term_head2 (t : Trm) (h : t.good) : ∃ c u, termS t = c :: u ∧ c ≠ 41 ∧ c ≠ 59 := by
  obtain ⟨c, u, e, e1⟩ := term_head h
  refine ⟨c, u, e, e1, ?_⟩
  rintro rfl
  unfold termS at e
  by_cases h0 : t.v = []
  · rw [if_pos h0] at e
    have h1 := h.e
    unfold termE at h1
    rw [if_pos h0] at h1
    have hv : t.c.valid = true := by
      split at h1
      · assumption
      · exact absurd h1 (by decide)
    exact lit_no59 hv (by rw [e]; rfl)
  · rw [if_neg h0] at e
    obtain ⟨_, ⟨d, v, e2, hl⟩, _⟩ := name_parts (termE_var h.e h0)
    rw [e] at e2
    injection e2 with e3
    subst e3
    exact absurd rfl (let_no hl).2.1
/-- The text of an atom behind its 'not'. -/
def atomT0 (a : Atm) : Str := a.rel ++ (40 :: (joinS comS (a.ts.map termS) ++ [41]))
theorem atomS_eq (a : Atm) : atomS a = (if a.neg = true then [110, 111, 116, 32] else []) ++ atomT0 a := by
  unfold atomS atomT0
  simp
theorem cut_atom0 {a b : Atm} {r s : Str} (ha : a.good) (hb : b.good) (h : atomT0 a ++ r = atomT0 b ++ s) : (a.rel = b.rel ∧ a.ts = b.ts) ∧ r = s := by
  unfold atomT0 at h
  simp only [List.append_assoc, List.cons_append, List.nil_append] at h
  obtain ⟨e1, h2⟩ := cut_name ha.rel hb.rel (Stop.cons (by decide)) (Stop.cons (by decide)) h
  injection h2 with _ h2
  obtain ⟨e2, h3⟩ := cut_join (f := termS) (G := Trm.good) (fun a b r s ha hb hr hs h => cut_term ha hb hr hs h) term_head2 ha.ts hb.ts ⟨41, _, rfl, .inl rfl⟩ ⟨41, _, rfl, .inl rfl⟩ h2
  injection h3 with _ h3
  exact ⟨⟨e1, e2⟩, h3⟩
theorem not_rel {a b : Atm} {r s : Str} (hb : b.good) (h : [110, 111, 116, 32] ++ atomT0 a ++ r = atomT0 b ++ s) : False := by
  unfold atomT0 at h
  simp only [List.append_assoc, List.cons_append, List.nil_append] at h
  have h' : [110, 111, 116] ++ (32 :: (a.rel ++ (40 :: (joinS comS (a.ts.map termS) ++ (41 :: r))))) = b.rel ++ (40 :: (joinS comS (b.ts.map termS) ++ (41 :: s))) := h
  have h2 := (cutP (p := wrdQ) (a := [110, 111, 116]) (b := b.rel) (by decide) (name_parts hb.rel).1 (fun x hx => by simp only [List.head?_cons, Option.some.injEq] at hx; subst hx; decide) (fun x hx => by simp only [List.head?_cons, Option.some.injEq] at hx; subst hx; decide) h').1
  have := (name_parts hb.rel).2.2
  rw [← h2] at this
  exact this (by decide)
theorem cut_atom {a b : Atm} {r s : Str} (ha : a.good) (hb : b.good) (h : atomS a ++ r = atomS b ++ s) : a = b ∧ r = s := by
  rw [atomS_eq, atomS_eq] at h
  obtain ⟨an, ar, at'⟩ := a
  obtain ⟨bn, br, bt⟩ := b
  simp only at h
  cases an
  · cases bn
    · simp only [Bool.false_eq_true, if_false, List.nil_append] at h
      obtain ⟨⟨e1, e2⟩, e3⟩ := cut_atom0 ha hb h
      simp only at e1 e2
      exact ⟨by rw [e1, e2], e3⟩
    · simp only [Bool.false_eq_true, if_false, if_true, List.nil_append] at h
      exact (not_rel ha h.symm).elim
  · cases bn
    · simp only [Bool.false_eq_true, if_false, if_true, List.nil_append] at h
      exact (not_rel hb h).elim
    · simp only [if_true, List.append_assoc] at h
      obtain ⟨⟨e1, e2⟩, e3⟩ := cut_atom0 ha hb (List.append_cancel_left h)
      simp only at e1 e2
      exact ⟨by rw [e1, e2], e3⟩
theorem atom_head {a : Atm} (ha : a.good) : ∃ c u, atomS a = c :: u ∧ letQ c = true := by
  rw [atomS_eq]
  cases a.neg
  · obtain ⟨_, ⟨c, u, e, hl⟩, _⟩ := name_parts ha.rel
    refine ⟨c, u ++ (40 :: (joinS comS (a.ts.map termS) ++ [41])), ?_, hl⟩
    simp only [Bool.false_eq_true, if_false, List.nil_append]
    unfold atomT0
    rw [e]; rfl
  · exact ⟨110, _, rfl, by decide⟩
/-- A valid condition. -/
structure Cnd.good (c : Cnd) : Prop where
  v : nameB c.v = true
  lo : 0 ≤ c.op
  hi : c.op ≤ 5
  ok : c.c.valid = true
  n : I64 c.c.n
/-- The text of a condition behind its comma. -/
def condT0 (c : Cnd) : Str := c.v ++ (32 :: (opS c.op ++ (32 :: textL c.c)))
theorem condS_eq (c : Cnd) : condS c = comS ++ condT0 c := by unfold condS condT0; simp
theorem op_cases {o : Int} (h : 0 ≤ o) (h' : o ≤ 5) : o = 0 ∨ o = 1 ∨ o = 2 ∨ o = 3 ∨ o = 4 ∨ o = 5 := by omega
theorem cut_op {o p : Int} (h : 0 ≤ o) (h' : o ≤ 5) (g : 0 ≤ p) (g' : p ≤ 5) {r s : Str} (e : opS o ++ (32 :: r) = opS p ++ (32 :: s)) : o = p ∧ r = s := by
  rcases op_cases h h' with rfl | rfl | rfl | rfl | rfl | rfl <;> rcases op_cases g g' with rfl | rfl | rfl | rfl | rfl | rfl <;> simp [opS] at e <;> first | exact ⟨rfl, e⟩ | exact absurd e (by decide) | skip
theorem cut_cond {a b : Cnd} {r s : Str} (ha : a.good) (hb : b.good) (hr : Stop r) (hs : Stop s) (h : condT0 a ++ r = condT0 b ++ s) : a = b ∧ r = s := by
  unfold condT0 at h
  simp only [List.append_assoc, List.cons_append] at h
  obtain ⟨e1, h2⟩ := cut_name ha.v hb.v (Stop.cons (by decide)) (Stop.cons (by decide)) h
  injection h2 with _ h2
  obtain ⟨e2, h3⟩ := cut_op ha.lo ha.hi hb.lo hb.hi h2
  obtain ⟨e3, e4⟩ := cut_lit ha.ok hb.ok ha.n hb.n hr hs h3
  obtain ⟨_, _, _⟩ := a
  obtain ⟨_, _, _⟩ := b
  simp only at e1 e2 e3
  exact ⟨by rw [e1, e2, e3], e4⟩
theorem atom_cond {a : Atm} {c : Cnd} {r s : Str} (ha : a.good) (hc : c.good) (h : atomS a ++ r = condT0 c ++ s) : False := by
  rw [atomS_eq] at h
  unfold condT0 at h
  have key : ∀ {n : Str} {x y : UInt8} {r s : Str}, (∀ z ∈ n, wrdQ z = true) → wrdQ x = false → wrdQ y = false → n ++ (x :: r) = c.v ++ (y :: s) → n = c.v ∧ x = y := by
    intro n x y r s hn hx hy e
    obtain ⟨e1, e2⟩ := cutP hn (name_parts hc.v).1 (fun z hz => by simp only [List.head?_cons, Option.some.injEq] at hz; subst hz; exact hx) (fun z hz => by simp only [List.head?_cons, Option.some.injEq] at hz; subst hz; exact hy) e
    injection e2 with e2
    exact ⟨e1, e2⟩
  cases hn : a.neg
  · rw [hn] at h
    unfold atomT0 at h
    simp only [Bool.false_eq_true, if_false, List.nil_append, List.append_assoc, List.cons_append] at h
    have := (key (name_parts ha.rel).1 (by decide) (by decide) h).2
    revert this; decide
  · rw [hn] at h
    simp only [if_true, List.append_assoc, List.cons_append, List.nil_append] at h
    have := (key (n := [110, 111, 116]) (x := 32) (r := atomT0 a ++ r) (by decide) (by decide) (by decide) h).1
    have h2 := (name_parts hc.v).2.2
    rw [← this] at h2
    exact h2 (by decide)
/-- A valid rule. -/
structure Rul.good (r : Rul) : Prop where
  ne : r.atoms ≠ []
  atoms : ∀ a ∈ r.atoms, a.good
  conds : ∀ c ∈ r.conds, c.good
/-- Atoms and conditions behind the first atom. -/
theorem conds_flat : ∀ (l : List Cnd), l.flatMap condS = flatS (l.map condT0)
  | [] => rfl
  | c :: l => by rw [List.flatMap_cons, List.map_cons, flat_cons, conds_flat l, condS_eq, List.append_assoc]
theorem cut_tail : ∀ {l m : List Atm} {c d : List Cnd} {r s : Str}, (∀ a ∈ l, a.good) → (∀ a ∈ m, a.good) → (∀ x ∈ c, x.good) → (∀ x ∈ d, x.good) → Stop r → Stop s → r.head? ≠ some 44 → s.head? ≠ some 44 →
    flatS (l.map atomS) ++ (flatS (c.map condT0) ++ r) = flatS (m.map atomS) ++ (flatS (d.map condT0) ++ s) → l = m ∧ c = d ∧ r = s
  | [], [], c, d, r, s, _, _, hc, hd, hr, hs, h1, h2, h => by
    obtain ⟨e1, e2⟩ := cut_flat (f := condT0) (G := Cnd.good) (fun a b r s ha hb hr hs h => cut_cond ha hb hr hs h) hc hd hr hs h1 h2 h
    exact ⟨rfl, e1, e2⟩
  | [], y :: m, c, d, r, s, _, hm, hc, _, _, _, h1, _, h => by
    rw [List.map_nil, List.map_cons, flat_cons] at h
    cases c with
    | nil =>
      have : r = 44 :: (32 :: (atomS y ++ flatS (m.map atomS)) ++ (flatS (d.map condT0) ++ s)) := h
      rw [this] at h1; exact absurd rfl h1
    | cons x c =>
      rw [List.map_cons, flat_cons] at h
      have h3 : comS ++ (condT0 x ++ (flatS (c.map condT0) ++ r)) = comS ++ (atomS y ++ (flatS (m.map atomS) ++ (flatS (d.map condT0) ++ s))) := by simpa [flatS] using h
      exact (atom_cond (hm y (List.mem_cons_self ..)) (hc x (List.mem_cons_self ..)) (List.append_cancel_left h3).symm).elim
  | x :: l, [], c, d, r, s, hl, _, _, hd, _, _, _, h1, h => by
    rw [List.map_nil, List.map_cons, flat_cons] at h
    cases d with
    | nil =>
      have : s = 44 :: (32 :: (atomS x ++ flatS (l.map atomS)) ++ (flatS (c.map condT0) ++ r)) := h.symm
      rw [this] at h1; exact absurd rfl h1
    | cons y d =>
      rw [List.map_cons, flat_cons] at h
      have h3 : comS ++ (atomS x ++ (flatS (l.map atomS) ++ (flatS (c.map condT0) ++ r))) = comS ++ (condT0 y ++ (flatS (d.map condT0) ++ s)) := by simpa [flatS] using h
      exact (atom_cond (hl x (List.mem_cons_self ..)) (hd y (List.mem_cons_self ..)) (List.append_cancel_left h3)).elim
  | x :: l, y :: m, c, d, r, s, hl, hm, hc, hd, hr, hs, h1, h2, h => by
    rw [List.map_cons, List.map_cons, flat_cons, flat_cons, List.append_assoc, List.append_assoc, List.append_assoc, List.append_assoc] at h
    obtain ⟨rfl, h4⟩ := cut_atom (hl x (List.mem_cons_self ..)) (hm y (List.mem_cons_self ..)) (List.append_cancel_left h)
    obtain ⟨rfl, e1, e2⟩ := cut_tail (fun z hz => hl z (List.mem_cons_of_mem _ hz)) (fun z hz => hm z (List.mem_cons_of_mem _ hz)) hc hd hr hs h1 h2 h4
    exact ⟨rfl, e1, e2⟩
theorem cut_rule {a b : Rul} {r s : Str} (ha : a.good) (hb : b.good) (hr : Stop r) (hs : Stop s) (h1 : r.head? ≠ some 44) (h2 : s.head? ≠ some 44) (h : ruleS a ++ r = ruleS b ++ s) : a = b ∧ r = s := by
  obtain ⟨al, ac⟩ := a
  obtain ⟨bl, bc⟩ := b
  unfold ruleS at h
  simp only [conds_flat] at h
  match al, ha.ne, bl, hb.ne, ha, hb, h with
  | x :: l, _, y :: m, _, ha, hb, h =>
    rw [List.map_cons, List.map_cons, joinS_cons, joinS_cons, List.append_assoc, List.append_assoc, List.append_assoc, List.append_assoc] at h
    obtain ⟨rfl, h4⟩ := cut_atom (ha.atoms x (List.mem_cons_self ..)) (hb.atoms y (List.mem_cons_self ..)) h
    obtain ⟨rfl, rfl, e2⟩ := cut_tail (fun z hz => ha.atoms z (List.mem_cons_of_mem _ hz)) (fun z hz => hb.atoms z (List.mem_cons_of_mem _ hz)) ha.conds hb.conds hr hs h1 h2 h4
    exact ⟨rfl, e2⟩
def flatB (l : List Str) : Str := l.flatMap fun y => barS ++ y
theorem flatB_cons (x : Str) (l : List Str) : flatB (x :: l) = barS ++ (x ++ flatB l) := by simp [flatB]
/-- The text of the keys: what follows the rules. -/
def OrdEnd (r : Str) : Prop := r = [] ∨ ∃ u, r = 32 :: 111 :: u
theorem stop_bar {l : List Str} {r : Str} (h : OrdEnd r) : Stop (flatB l ++ r) ∧ (flatB l ++ r).head? ≠ some 44 := by
  cases l with
  | nil =>
    rcases h with rfl | ⟨u, rfl⟩
    · exact ⟨Stop.nil, by simp [flatB]⟩
    · exact ⟨Stop.cons (by decide), by simp [flatB]⟩
  | cons x l => exact ⟨Stop.cons (by decide), by simp [flatB, barS]⟩
theorem cut_bars : ∀ {l m : List Rul} {r s : Str}, (∀ a ∈ l, a.good) → (∀ a ∈ m, a.good) → OrdEnd r → OrdEnd s → flatB (l.map ruleS) ++ r = flatB (m.map ruleS) ++ s → l = m ∧ r = s
  | [], [], r, s, _, _, _, _, h => ⟨rfl, h⟩
  | [], y :: m, r, s, _, _, hr, _, h => by
    rw [List.map_nil, List.map_cons, flatB_cons] at h
    have h' : r = 32 :: 124 :: (32 :: (ruleS y ++ flatB (m.map ruleS)) ++ s) := h
    rcases hr with rfl | ⟨u, rfl⟩
    · cases h'
    · injection h' with _ h'; injection h' with h' _; exact absurd h' (by decide)
  | x :: l, [], r, s, _, _, _, hs, h => by
    rw [List.map_nil, List.map_cons, flatB_cons] at h
    have h' : s = 32 :: 124 :: (32 :: (ruleS x ++ flatB (l.map ruleS)) ++ r) := h.symm
    rcases hs with rfl | ⟨u, rfl⟩
    · cases h'
    · injection h' with _ h'; injection h' with h' _; exact absurd h' (by decide)
  | x :: l, y :: m, r, s, hl, hm, hr, hs, h => by
    rw [List.map_cons, List.map_cons, flatB_cons, flatB_cons, List.append_assoc, List.append_assoc, List.append_assoc, List.append_assoc] at h
    obtain ⟨rfl, h4⟩ := cut_rule (hl x (List.mem_cons_self ..)) (hm y (List.mem_cons_self ..)) (stop_bar hr).1 (stop_bar hs).1 (stop_bar hr).2 (stop_bar hs).2 (List.append_cancel_left h)
    obtain ⟨rfl, e2⟩ := cut_bars (fun z hz => hl z (List.mem_cons_of_mem _ hz)) (fun z hz => hm z (List.mem_cons_of_mem _ hz)) hr hs h4
    exact ⟨rfl, e2⟩
theorem orderS_end (l : List Ky) : OrdEnd (orderS l) := by
  unfold orderS
  split
  · exact .inl rfl
  · exact .inr ⟨_, rfl⟩
theorem cut_key {a b : Ky} {r s : Str} (ha : nameB a.v = true) (hb : nameB b.v = true) (hr : r = [] ∨ ∃ u, r = 44 :: u) (hs : s = [] ∨ ∃ u, s = 44 :: u) (h : keyS a ++ r = keyS b ++ s) : a = b ∧ r = s := by
  obtain ⟨av, ad⟩ := a
  obtain ⟨bv, bd⟩ := b
  unfold keyS at h
  simp only [List.append_assoc] at h ha hb
  have st : ∀ {d : Bool} {r : Str}, (r = [] ∨ ∃ u, r = 44 :: u) → Stop ((if d = true then [32, 100, 101, 115, 99] else []) ++ r) := by
    rintro (_ | _) r (rfl | ⟨u, rfl⟩)
    · exact Stop.nil
    · exact Stop.cons (by decide)
    · exact Stop.cons (by decide)
    · exact Stop.cons (by decide)
  obtain ⟨rfl, h2⟩ := cut_name ha hb (st hr) (st hs) h
  cases ad <;> cases bd
  · exact ⟨rfl, h2⟩
  · rcases hr with rfl | ⟨u, rfl⟩ <;> simp at h2
  · rcases hs with rfl | ⟨u, rfl⟩ <;> simp at h2
  · exact ⟨rfl, List.append_cancel_left h2⟩
theorem flat_end : ∀ (l : List Ky), flatS (l.map keyS) = [] ∨ ∃ u, flatS (l.map keyS) = 44 :: u
  | [] => .inl rfl
  | _x :: _l => .inr ⟨_, rfl⟩
theorem cut_keys : ∀ {l m : List Ky}, (∀ k ∈ l, nameB k.v = true) → (∀ k ∈ m, nameB k.v = true) → flatS (l.map keyS) = flatS (m.map keyS) → l = m
  | [], [], _, _, _ => rfl
  | [], y :: m, _, _, h => by rw [List.map_cons, flat_cons] at h; cases h
  | x :: l, [], _, _, h => by rw [List.map_cons, flat_cons] at h; cases h
  | x :: l, y :: m, hl, hm, h => by
    rw [List.map_cons, List.map_cons, flat_cons, flat_cons] at h
    obtain ⟨rfl, h2⟩ := cut_key (hl x (List.mem_cons_self ..)) (hm y (List.mem_cons_self ..)) (flat_end l) (flat_end m) (List.append_cancel_left h)
    rw [cut_keys (fun z hz => hl z (List.mem_cons_of_mem _ hz)) (fun z hz => hm z (List.mem_cons_of_mem _ hz)) h2]
theorem orderS_inj {l m : List Ky} (hl : ∀ k ∈ l, nameB k.v = true) (hm : ∀ k ∈ m, nameB k.v = true) (h : orderS l = orderS m) : l = m := by
  unfold orderS at h
  cases l with
  | nil =>
    cases m with
    | nil => rfl
    | cons y m => simp at h
  | cons x l =>
    cases m with
    | nil => simp at h
    | cons y m =>
      rw [if_neg (by simp), if_neg (by simp)] at h
      have h2 := List.append_cancel_left h
      rw [List.map_cons, List.map_cons, joinS_cons, joinS_cons] at h2
      obtain ⟨rfl, h3⟩ := cut_key (hl x (List.mem_cons_self ..)) (hm y (List.mem_cons_self ..)) (flat_end l) (flat_end m) h2
      rw [cut_keys (fun z hz => hl z (List.mem_cons_of_mem _ hz)) (fun z hz => hm z (List.mem_cons_of_mem _ hz)) h3]
/-- What a valid query's parts are. -/
theorem items_good {r : Rul} (h : itemsE r = 0) (hw : r.wf) : r.good := by
  unfold itemsE at h
  by_cases g0 : r.atoms = []
  · rw [if_pos g0] at h; exact absurd h (by decide)
  rw [if_neg g0] at h
  by_cases g1 : 8 < r.atoms.length ∨ 8 < r.conds.length
  · rw [if_pos g1] at h; exact absurd h (by decide)
  rw [if_neg g1] at h
  by_cases g2 : firstE atomE r.atoms = 0
  · rw [if_pos g2] at h
    refine ⟨g0, fun a ha => ?_, fun c hc => ?_⟩
    · have h1 := firstE_zero g2 a ha
      unfold atomE at h1
      by_cases k0 : nameB a.rel = false
      · rw [if_pos k0] at h1; exact absurd h1 (by decide)
      rw [if_neg k0] at h1
      by_cases k1 : 6 < a.ts.length
      · rw [if_pos k1] at h1; exact absurd h1 (by decide)
      rw [if_neg k1] at h1
      exact ⟨by simpa using k0, fun t ht => ⟨firstE_zero h1 t ht, (((hw.atoms a ha).ts t ht).c).n⟩⟩
    · have h1 := firstE_zero h c hc
      unfold condE at h1
      by_cases k0 : nameB c.v = false
      · rw [if_pos k0] at h1; exact absurd h1 (by decide)
      rw [if_neg k0] at h1
      by_cases k1 : c.op < 0 ∨ 5 < c.op
      · rw [if_pos k1] at h1; exact absurd h1 (by decide)
      rw [if_neg k1] at h1
      have hv : c.c.valid = true := by
        split at h1
        · assumption
        · exact absurd h1 (by decide)
      exact ⟨by simpa using k0, by omega, by omega, hv, ((hw.conds c hc).c).n⟩
  · rw [if_neg g2] at h; exact absurd h g2
theorem order_names {q : Qry} (h : checkQ q = 0) : ∀ k ∈ q.order, k.v ∈ q.head := by
  have key : ∀ {hd : List Str} {l : List Ky} {pre : List Str}, orderGo hd pre l = 0 → ∀ k ∈ l, k.v ∈ hd := by
    intro hd l
    induction l with
    | nil => intro pre _ k hk; cases hk
    | cons x l ih =>
      intro pre h k hk
      unfold orderGo at h
      split at h
      · rename_i hm
        split at h
        · exact absurd h (by decide)
        · rcases List.mem_cons.1 hk with rfl | hk
          · exact hm
          · exact ih h k hk
      · exact absurd h (by decide)
  exact key (check_parts h).2.2.2.2.2.2
/-- The aggregate of a valid query. -/
theorem agg_ways {q : Qry} (h : aggE q = 0) : ((q.agg = 0 ∨ q.agg = 1) ∧ q.aggVar = []) ∨ ((q.agg = 2 ∨ q.agg = 3 ∨ q.agg = 4) ∧ nameB q.aggVar = true) := by
  unfold aggE at h
  by_cases h1 : q.agg = 0 ∨ q.agg = 1
  · rw [if_pos h1] at h
    split at h
    · rename_i h2; exact .inl ⟨h1, h2⟩
    · exact absurd h (by decide)
  · rw [if_neg h1] at h
    split at h
    · rename_i h2
      split at h
      · rename_i h3; exact .inr ⟨h2, h3⟩
      · exact absurd h (by decide)
    · exact absurd h (by decide)
theorem cut_agg {a b : Qry} {r s : Str} (ha : aggE a = 0) (hb : aggE b = 0) (h : aggS a ++ (41 :: r) = aggS b ++ (41 :: s)) : a.agg = b.agg ∧ a.aggVar = b.aggVar ∧ r = s := by
  have nm2 : nameB a.aggVar = true → nameB b.aggVar = true → a.aggVar ++ (41 :: r) = b.aggVar ++ (41 :: s) → a.aggVar = b.aggVar ∧ r = s := fun n1 n2 e => by
    obtain ⟨e1, e2⟩ := cut_name n1 n2 (Stop.cons (by decide)) (Stop.cons (by decide)) e
    injection e2 with _ e2
    exact ⟨e1, e2⟩
  unfold aggS at h
  rcases agg_ways ha with ⟨a1, a2⟩ | ⟨a1, a2⟩ <;> rcases agg_ways hb with ⟨b1, b2⟩ | ⟨b1, b2⟩
  · rcases a1 with a1 | a1 <;> rcases b1 with b1 | b1 <;> rw [a1, b1] at h <;> simp at h
    · exact ⟨by rw [a1, b1], by rw [a2, b2], h⟩
    · exact ⟨by rw [a1, b1], by rw [a2, b2], h⟩
  · rcases a1 with a1 | a1 <;> rcases b1 with b1 | b1 | b1 <;> rw [a1, b1] at h <;> simp at h
  · rcases a1 with a1 | a1 | a1 <;> rcases b1 with b1 | b1 <;> rw [a1, b1] at h <;> simp at h
  · rcases a1 with a1 | a1 | a1 <;> rcases b1 with b1 | b1 | b1 <;> rw [a1, b1] at h <;> simp at h
    · obtain ⟨e1, e2⟩ := nm2 a2 b2 h; exact ⟨by rw [a1, b1], e1, e2⟩
    · obtain ⟨e1, e2⟩ := nm2 a2 b2 h; exact ⟨by rw [a1, b1], e1, e2⟩
    · obtain ⟨e1, e2⟩ := nm2 a2 b2 h; exact ⟨by rw [a1, b1], e1, e2⟩
theorem agg_head (q : Qry) (r : Str) : ∃ c u, aggS q ++ (41 :: r) = c :: u ∧ (c = 41 ∨ c = 59) := by
  unfold aggS
  split
  · exact ⟨59, _, rfl, .inr rfl⟩
  split
  · exact ⟨59, _, rfl, .inr rfl⟩
  split
  · exact ⟨59, _, rfl, .inr rfl⟩
  split
  · exact ⟨59, _, rfl, .inr rfl⟩
  · exact ⟨41, _, rfl, .inl rfl⟩
theorem textQ_inj {a b : Qry} (ha : checkQ a = 0) (hb : checkQ b = 0) (wa : a.wf) (wb : b.wf) (h : textQ a = textQ b) : a = b := by
  have hda := (headE_zero (check_parts ha).2.2.2.1).2.1
  have hdb := (headE_zero (check_parts hb).2.2.2.1).2.1
  have ga : ∀ r ∈ a.rules, r.good := fun r hr => items_good (rule_items_zero (firstE_zero (check_parts ha).2.2.2.2.2.1 r hr)) (wa.rules r hr)
  have gb : ∀ r ∈ b.rules, r.good := fun r hr => items_good (rule_items_zero (firstE_zero (check_parts hb).2.2.2.2.2.1 r hr)) (wb.rules r hr)
  unfold textQ headS at h
  simp only [List.append_assoc, List.cons_append, List.nil_append, List.cons.injEq, true_and] at h
  have id1 : ∀ l : List Str, l = l.map id := fun l => by simp
  rw [id1 a.head, id1 b.head] at h
  obtain ⟨e1, h2⟩ := cut_join (f := id) (G := fun v => nameB v = true) (fun x y r s hx hy hr hs h => cut_name hx hy hr hs h) (fun x hx => by
    obtain ⟨_, ⟨c, u, e, hl⟩, _⟩ := name_parts hx
    exact ⟨c, u, e, (let_no hl).1, (let_no hl).2.1⟩) hda hdb (agg_head a _) (agg_head b _) h
  obtain ⟨e2, e3, h3⟩ := cut_agg (check_parts ha).2.2.2.2.1 (check_parts hb).2.2.2.2.1 h2
  simp only [List.cons.injEq, true_and] at h3
  have na := (check_parts ha).1
  have nb := (check_parts hb).1
  obtain ⟨hd, ag, av, rs, os⟩ := a
  obtain ⟨hd', ag', av', rs', os'⟩ := b
  simp only at *
  match rs, na, rs', nb, ga, gb, h3, ha, hb with
  | x :: l, _, y :: m, _, ga, gb, h3, ha, hb =>
    have h4 : ruleS x ++ (flatB (l.map ruleS) ++ orderS os) = ruleS y ++ (flatB (m.map ruleS) ++ orderS os') := by
      have e : ∀ (x : Str) l, joinS barS (x :: l) = x ++ flatB l := fun _ _ => rfl
      rw [List.map_cons, List.map_cons, e, e, List.append_assoc, List.append_assoc] at h3
      exact h3
    obtain ⟨rfl, h5⟩ := cut_rule (ga x (List.mem_cons_self ..)) (gb y (List.mem_cons_self ..)) (stop_bar (orderS_end os)).1 (stop_bar (orderS_end os')).1 (stop_bar (orderS_end os)).2 (stop_bar (orderS_end os')).2 h4
    obtain ⟨rfl, h6⟩ := cut_bars (fun z hz => ga z (List.mem_cons_of_mem _ hz)) (fun z hz => gb z (List.mem_cons_of_mem _ hz)) (orderS_end os) (orderS_end os') h5
    have e4 : os = os' := orderS_inj (fun k hk => hda _ (order_names ha k hk)) (fun k hk => hdb _ (order_names hb k hk)) h6
    rw [e1, e2, e3, e4]
end Go.Proofs.YtgeapgbebbapmaaDoor
