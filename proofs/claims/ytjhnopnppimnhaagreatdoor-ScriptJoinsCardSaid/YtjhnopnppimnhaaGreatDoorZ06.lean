/-
  PARTS of a claim, merged by segs.py: Ord.
-/
import Derived.Test.YtjhnopnppimnhaaGreatDoorZ01
namespace Go.Proofs.YtjhnopnppimnhaaGreatDoor

/-! ### Ord -/
section

/-- A comparison with results -1, 0, 1 that is a total preorder. -/
structure Ord {α : Type} (f : α → α → Int) : Prop where
  lo : ∀ a b, -1 ≤ f a b
  hi : ∀ a b, f a b ≤ 1
  anti : ∀ a b, f b a = - f a b
  trans : ∀ a b c, f a b ≤ 0 → f b c ≤ 0 → f a c ≤ f a b ∧ f a c ≤ f b c

theorem Ord.refl {α : Type} {f : α → α → Int} (h : Ord f) (a : α) : f a a = 0 := by have := h.anti a a; omega

theorem Ord.neg {α : Type} {f : α → α → Int} (h : Ord f) : Ord fun a b => - f a b where
  lo a b := by have := h.hi a b; omega
  hi a b := by have := h.lo a b; omega
  anti a b := by have := h.anti a b; omega
  trans a b c h1 h2 := by
    have e1 := h.anti a b
    have e2 := h.anti b c
    have e3 := h.anti a c
    have := h.trans c b a (by omega) (by omega)
    omega

theorem Ord.left {α : Type} {f : α → α → Int} (h : Ord f) {a b : α} (c : α) (e : f a b = 0) : f a c = f b c := by
  have e1 := h.anti a b
  have e2 := h.anti b c
  have e3 := h.anti a c
  by_cases h0 : f b c ≤ 0
  · have h1 := h.trans a b c (by omega) h0
    have h2 := h.trans b a c (by omega) (by omega)
    omega
  · have h1 := h.trans c b a (by omega) (by omega)
    have h2 := h.trans c a b (by omega) (by omega)
    omega

theorem Ord.right {α : Type} {f : α → α → Int} (h : Ord f) (a : α) {b c : α} (e : f b c = 0) : f a b = f a c := by
  have e1 := h.left a e
  have e2 := h.anti a b
  have e3 := h.anti a c
  omega

theorem compareInt_ord : Ord Lib.compareInt where
  lo a b := (compareInt_range a b).1
  hi a b := (compareInt_range a b).2
  anti a b := by unfold Lib.compareInt; split <;> split <;> (try split) <;> (try split) <;> omega
  trans a b c := by
    unfold Lib.compareInt
    by_cases h1 : a < b <;> by_cases h2 : b < c <;> by_cases h3 : a < c <;> by_cases h4 : a > b <;> by_cases h5 : b > c <;> by_cases h6 : a > c <;> simp [h1, h2, h3, h4, h5, h6] <;> omega

theorem compareBytes_anti : ∀ a b : List UInt8, Lib.compareBytes b a = - Lib.compareBytes a b
  | [], [] => by simp [Lib.compareBytes]
  | [], _ :: _ => by simp [Lib.compareBytes]
  | _ :: _, [] => by simp [Lib.compareBytes]
  | a :: as, b :: bs => by
    have ih := compareBytes_anti as bs
    unfold Lib.compareBytes
    by_cases h : a < b
    · have h' : ¬ b < a := by rw [UInt8.lt_iff_toNat_lt] at *; omega
      rw [if_pos h, if_neg h', if_pos h]; rfl
    · by_cases h' : b < a
      · rw [if_pos h', if_neg h, if_pos h']
      · rw [if_neg h', if_neg h, if_neg h, if_neg h']; exact ih

theorem compareBytes_trans : ∀ a b c : List UInt8, Lib.compareBytes a b ≤ 0 → Lib.compareBytes b c ≤ 0 → Lib.compareBytes a c ≤ Lib.compareBytes a b ∧ Lib.compareBytes a c ≤ Lib.compareBytes b c
  | [], [], c => by have := compareBytes_range [] c; simp only [show Lib.compareBytes [] [] = 0 from rfl]; omega
  | [], b :: bs, [] => by simp [Lib.compareBytes]
  | [], b :: bs, c :: cs => by have := compareBytes_range (b :: bs) (c :: cs); simp only [show Lib.compareBytes [] (b :: bs) = -1 from rfl, show Lib.compareBytes [] (c :: cs) = -1 from rfl]; intros; omega
  | a :: as, [], c => by simp [Lib.compareBytes]
  | a :: as, b :: bs, [] => by simp [Lib.compareBytes]
  | a :: as, b :: bs, c :: cs => by
    have ih := compareBytes_trans as bs cs
    have r1 := compareBytes_range as cs
    have r2 := compareBytes_range as bs
    have r3 := compareBytes_range bs cs
    simp only [Lib.compareBytes, UInt8.lt_iff_toNat_lt]
    by_cases h1 : a.toNat < b.toNat <;> by_cases h2 : b.toNat < a.toNat <;> by_cases h3 : b.toNat < c.toNat <;> by_cases h4 : c.toNat < b.toNat <;> by_cases h5 : a.toNat < c.toNat <;> by_cases h6 : c.toNat < a.toNat <;>
      simp only [h1, h2, h3, h4, h5, h6, if_true, if_false] <;> first | omega | (intros; omega)

theorem compareBytes_ord : Ord Lib.compareBytes where
  lo a b := (compareBytes_range a b).1
  hi a b := (compareBytes_range a b).2
  anti := compareBytes_anti
  trans := compareBytes_trans

/-- First f, then g where f says 0. -/
theorem Ord.lex {α : Type} {f g : α → α → Int} (hf : Ord f) (hg : Ord g) : Ord fun a b => if f a b = 0 then g a b else f a b where
  lo a b := by have := hf.lo a b; have := hg.lo a b; split <;> omega
  hi a b := by have := hf.hi a b; have := hg.hi a b; split <;> omega
  anti a b := by
    have e1 := hf.anti a b
    have e2 := hg.anti a b
    by_cases h : f a b = 0
    · rw [if_pos h, if_pos (by omega)]; omega
    · rw [if_neg h, if_neg (by omega)]; omega
  trans a b c := by
    have l1 := hf.lo a b; have l2 := hf.lo b c; have l3 := hf.lo a c
    have u1 := hf.hi a b; have u2 := hf.hi b c; have u3 := hf.hi a c
    have g1 := hg.lo a b; have g2 := hg.lo b c; have g3 := hg.lo a c
    have v1 := hg.hi a b; have v2 := hg.hi b c; have v3 := hg.hi a c
    have tf := hf.trans a b c
    have tg := hg.trans a b c
    have lf := fun e => hf.left (a := a) (b := b) c e
    have rf := fun e => hf.right a (b := b) (c := c) e
    by_cases h1 : f a b = 0 <;> by_cases h2 : f b c = 0 <;> by_cases h3 : f a c = 0 <;> simp only [h1, h2, h3, if_true, if_false] <;> intro p q
    · exact tg p q
    · have := lf h1; omega
    · have := lf h1; omega
    · have := lf h1; have := tf (by omega) (by omega); omega
    · have := rf h2; omega
    · have := rf h2; have := tf (by omega) (by omega); omega
    · have := tf (by omega) (by omega); omega
    · have := tf (by omega) (by omega); omega

theorem Ord.on {α β : Type} {f : α → α → Int} (h : Ord f) (g : β → α) : Ord fun a b => f (g a) (g b) where
  lo _ _ := h.lo _ _
  hi _ _ := h.hi _ _
  anti _ _ := h.anti _ _
  trans _ _ _ := h.trans _ _ _

theorem compareInt_zero {a b : Int} : Lib.compareInt a b = 0 ↔ a = b := by
  unfold Lib.compareInt
  by_cases h1 : a < b
  · rw [if_pos h1]; omega
  · by_cases h2 : a > b
    · rw [if_neg h1, if_pos h2]; omega
    · rw [if_neg h1, if_neg h2]; omega

theorem V.cmp_lex (a b : V) : V.cmp a b = if Lib.compareInt a.k b.k = 0 then (if Lib.compareInt a.n b.n = 0 then Lib.compareBytes a.s.data.toList b.s.data.toList else Lib.compareInt a.n b.n) else Lib.compareInt a.k b.k := by
  unfold V.cmp
  by_cases h1 : a.k = b.k
  · rw [if_neg (by simpa using h1), if_pos (compareInt_zero.2 h1)]
    by_cases h2 : a.n = b.n
    · rw [if_neg (by simpa using h2), if_pos (compareInt_zero.2 h2)]
    · rw [if_pos h2, if_neg (fun e => h2 (compareInt_zero.1 e))]
  · rw [if_pos h1, if_neg (fun e => h1 (compareInt_zero.1 e))]

theorem V.cmp_ord : Ord V.cmp := by
  have h := (compareInt_ord.on V.k).lex ((compareInt_ord.on V.n).lex (compareBytes_ord.on fun v : V => v.s.data.toList))
  have e : V.cmp = _ := funext fun a => funext fun b => V.cmp_lex a b
  rw [e]; exact h

theorem compareBytes_zero : ∀ {a b : List UInt8}, Lib.compareBytes a b = 0 ↔ a = b
  | [], [] => by simp [Lib.compareBytes]
  | [], _ :: _ => by simp [Lib.compareBytes]
  | _ :: _, [] => by simp [Lib.compareBytes]
  | a :: as, b :: bs => by
    have ih := compareBytes_zero (a := as) (b := bs)
    unfold Lib.compareBytes
    simp only [UInt8.lt_iff_toNat_lt]
    by_cases h : a.toNat < b.toNat
    · rw [if_pos h]; simp; intro e; subst e; omega
    · by_cases h' : b.toNat < a.toNat
      · rw [if_neg h, if_pos h']; simp; intro e; subst e; omega
      · have e : a = b := UInt8.toNat.inj (by omega)
        rw [if_neg h, if_neg h', ih]; simp [e]

theorem V.cmp_zero {a b : V} : V.cmp a b = 0 ↔ a = b := by
  obtain ⟨k, n, ⟨⟨s⟩⟩⟩ := a
  obtain ⟨k', n', ⟨⟨s'⟩⟩⟩ := b
  rw [V.cmp_lex]
  by_cases h1 : k = k'
  · rw [if_pos (compareInt_zero.2 h1)]
    by_cases h2 : n = n'
    · rw [if_pos (compareInt_zero.2 h2), compareBytes_zero]; simp [h1, h2]
    · have h3 : Lib.compareInt n n' ≠ 0 := fun e => h2 (compareInt_zero.1 e)
      rw [if_neg h3]; simp [h2, h3]
  · have h3 : Lib.compareInt k k' ≠ 0 := fun e => h1 (compareInt_zero.1 e)
    rw [if_neg h3]; simp [h1, h3]

/-- The order at one column. -/
def colCmp (d : Bool) (a b : V) : Int := if d then - V.cmp a b else V.cmp a b
theorem colCmp_ord (d : Bool) : Ord (colCmp d) := by
  cases d
  · exact V.cmp_ord
  · exact V.cmp_ord.neg
theorem colCmp_zero {d : Bool} {a b : V} : colCmp d a b = 0 ↔ a = b := by
  unfold colCmp; cases d <;> simp [V.cmp_zero]

theorem rowCmp_cons (d : List Bool) (a b : V) (as bs : List V) : rowCmp d (a :: as) (b :: bs) = if colCmp (d.headD false) a b = 0 then rowCmp d.tail as bs else colCmp (d.headD false) a b := by
  rw [show rowCmp d (a :: as) (b :: bs) = if V.cmp a b = 0 then rowCmp d.tail as bs else if d.headD false then - V.cmp a b else V.cmp a b by rw [rowCmp]]
  unfold colCmp
  cases d.headD false <;> simp

theorem rowCmp_anti : ∀ (d : List Bool) (a b : List V), rowCmp d b a = - rowCmp d a b
  | _, [], [] => by simp [rowCmp]
  | _, [], _ :: _ => by simp [rowCmp]
  | _, _ :: _, [] => by simp [rowCmp]
  | d, a :: as, b :: bs => by
    have ih := rowCmp_anti d.tail as bs
    have e := (colCmp_ord (d.headD false)).anti a b
    rw [rowCmp_cons, rowCmp_cons]
    by_cases h : colCmp (d.headD false) a b = 0
    · rw [if_pos h, if_pos (by omega)]; exact ih
    · rw [if_neg h, if_neg (by omega)]; exact e

theorem rowCmp_trans : ∀ (d : List Bool) (a b c : List V), rowCmp d a b ≤ 0 → rowCmp d b c ≤ 0 → rowCmp d a c ≤ rowCmp d a b ∧ rowCmp d a c ≤ rowCmp d b c
  | d, [], [], c => by have := rowCmp_range d [] c; simp only [show rowCmp d [] [] = 0 by simp [rowCmp]]; intros; omega
  | d, [], b :: bs, [] => by simp [rowCmp]
  | d, [], b :: bs, c :: cs => by have := rowCmp_range d (b :: bs) (c :: cs); simp only [show rowCmp d [] (b :: bs) = -1 by simp [rowCmp], show rowCmp d [] (c :: cs) = -1 by simp [rowCmp]]; intros; omega
  | d, a :: as, [], c => by simp [rowCmp]
  | d, a :: as, b :: bs, [] => by simp [rowCmp]
  | d, a :: as, b :: bs, c :: cs => by
    have ih := rowCmp_trans d.tail as bs cs
    have hf := colCmp_ord (d.headD false)
    simp only [rowCmp_cons]
    generalize colCmp (d.headD false) = f at *
    have l1 := hf.lo a b; have l2 := hf.lo b c; have l3 := hf.lo a c
    have u1 := hf.hi a b; have u2 := hf.hi b c; have u3 := hf.hi a c
    have g1 := rowCmp_range d.tail as bs; have g2 := rowCmp_range d.tail bs cs; have g3 := rowCmp_range d.tail as cs
    have tf := hf.trans a b c
    have lf := fun e => hf.left (a := a) (b := b) c e
    have rf := fun e => hf.right a (b := b) (c := c) e
    by_cases h1 : f a b = 0 <;> by_cases h2 : f b c = 0 <;> by_cases h3 : f a c = 0 <;> simp only [h1, h2, h3, if_true, if_false] <;> intro p q
    · exact ih p q
    · have := lf h1; omega
    · have := lf h1; omega
    · have := lf h1; have := tf (by omega) (by omega); omega
    · have := rf h2; omega
    · have := rf h2; have := tf (by omega) (by omega); omega
    · have := tf (by omega) (by omega); omega
    · have := tf (by omega) (by omega); omega

theorem rowCmp_ord (d : List Bool) : Ord (rowCmp d) where
  lo a b := (rowCmp_range d a b).1
  hi a b := (rowCmp_range d a b).2
  anti := rowCmp_anti d
  trans := rowCmp_trans d

theorem rowCmp_zero : ∀ {d : List Bool} {a b : List V}, rowCmp d a b = 0 ↔ a = b
  | _, [], [] => by simp [rowCmp]
  | _, [], _ :: _ => by simp [rowCmp]
  | _, _ :: _, [] => by simp [rowCmp]
  | d, a :: as, b :: bs => by
    have ih := rowCmp_zero (d := d.tail) (a := as) (b := bs)
    rw [rowCmp_cons]
    by_cases h : colCmp (d.headD false) a b = 0
    · rw [if_pos h, ih]; simp [colCmp_zero.1 h]
    · rw [if_neg h]; simp only [h, false_iff]; intro e; injection e with e1 e2; exact h (colCmp_zero.2 e1)

/-- All flags reversed. -/
theorem rowCmp_flip : ∀ (n : Nat) (d e : List Bool) (a b : List V), a.length = n → b.length = n → (∀ i, i < n → e.getD i false = !(d.getD i false)) → rowCmp e a b = - rowCmp d a b
  | 0, _, _, [], [], _, _, _ => by simp [rowCmp]
  | n + 1, d, e, a :: as, b :: bs, ha, hb, h => by
    have ih := rowCmp_flip n d.tail e.tail as bs (by simpa using ha) (by simpa using hb) (fun i hi => by have := h (i + 1) (by omega); cases d <;> cases e <;> simp at this ⊢ <;> (try exact this))
    have h0 : e.headD false = !(d.headD false) := by have := h 0 (by omega); cases d <;> cases e <;> simp at this ⊢ <;> (try exact this)
    rw [rowCmp_cons, rowCmp_cons, h0]
    unfold colCmp
    cases d.headD false
    · simp only [Bool.not_false, if_true, if_false, Bool.false_eq_true]
      by_cases hc : V.cmp a b = 0
      · rw [if_pos (by omega), if_pos hc]; exact ih
      · rw [if_neg (by omega), if_neg hc]
    · simp only [Bool.not_true, if_true, if_false, Bool.false_eq_true]
      by_cases hc : V.cmp a b = 0
      · rw [if_pos hc, if_pos (by omega)]; exact ih
      · rw [if_neg hc, if_neg (by omega)]; omega

end
end Go.Proofs.YtjhnopnppimnhaaGreatDoor
