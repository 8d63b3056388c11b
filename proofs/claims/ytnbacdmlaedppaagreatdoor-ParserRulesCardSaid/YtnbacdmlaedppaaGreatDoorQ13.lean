/-
  PARTS of a claim, merged by segs.py: RenM, Ps2.
-/
import Derived.Test.YtnbacdmlaedppaaGreatDoorQ12
import Derived.Test.YtnbacdmlaedppaaGreatDoorQ05
import Derived.Test.YtnbacdmlaedppaaGreatDoorQ07
import Derived.Deep.DeepCutAuto
namespace Go.Proofs.YtnbacdmlaedppaaGreatDoor

/-! ### RenM -/
section
open Go.RowKit

section
variable {w w' : World} {B e k n : Nat} {u v : Value} {xs : List Value}
theorem ren_apart {B1 B2 e1 e2 z1 z2 n1 n2 : Nat} {v1 v2 : Value} {x1 x2 : List Value} (h1 : w.ownsRow B1 e1 z1 v1 n1 x1) (h2 : w.ownsRow B2 e2 z2 v2 n2 x2) (he : e1 ≠ e2) : v1.ownBlock = none ∨ v1.ownBlock ≠ v2.ownBlock := by
  rcases h1.2 with ⟨rfl, _⟩ | ⟨g, cap, cur, rfl, _, hh, _⟩
  · exact .inl rfl
  · refine .inr fun e => ?_
    rcases h2.2 with ⟨rfl, _⟩ | ⟨g', cap', cur', rfl, _, hh', _⟩
    · cases e
    · have e : g = g' := by simpa [Value.ownBlock] using e
      subst e
      rw [hh] at hh'
      injection hh' with hh'
      injection hh' with _ hh' _
      exact he hh'
theorem ren_mono {B' : Nat} (h : w.ownsRow B' e k v n xs) (hB : B ≤ B') : w.ownsRow B e k v n xs := by
  obtain ⟨hl, h0 | ⟨g, cap, cur, hv, hg, hh, r⟩⟩ := h
  · exact ⟨hl, .inl h0⟩
  · exact ⟨hl, .inr ⟨g, cap, cur, hv, by omega, hh, r⟩⟩
theorem ren_far {t : Nat} (h : w.ownsRow B e k v n xs) (hg : w.grownBy w' (some t)) (ht : t < B) : w'.ownsRow B e k v n xs := h.kept hg (.inr (fun e => by have := (h.lt t e).1; omega))
theorem ren_set (w : World) (b i : Nat) (v : Value) : w.grownBy (w.setCell ⟨b, i, none⟩ v) (some b) :=
  ⟨rfl, rfl, rfl, by simp [World.setCell], fun k _ hk => by
    simp only [World.setCell]
    rw [Array.getElem?_modify, if_neg]
    exact fun e => hk (by rw [e])⟩
theorem ren_len {α : Type} {f : α → List Value} (hf : ∀ x, (f x).length = k) (l : List α) : (l.flatMap f).length = l.length * k := by
  induction l with
  | nil => simp
  | cons x l ih => rw [List.flatMap_cons, List.length_append, ih, hf, List.length_cons, Nat.add_mul]; omega
theorem ren_get {α : Type} {f : α → List Value} (hf : ∀ x, (f x).length = k) : ∀ (l : List α) (i j : Nat) (hi : i < l.length), j < k → (l.flatMap f)[i * k + j]? = (f l[i])[j]?
  | x :: l, 0, j, _, hj => by
    rw [List.flatMap_cons, List.getElem?_append_left (by rw [hf]; omega)]
    simp
  | x :: l, i + 1, j, hi, hj => by
    have hi' : i < l.length := by simpa using hi
    rw [List.flatMap_cons, List.getElem?_append_right (by rw [hf, Nat.add_mul]; omega), hf, show (i + 1) * k + j - k = i * k + j by rw [Nat.add_mul]; omega, ren_get hf l i j hi' hj]
    simp
theorem ren_gen {α : Type} {f : α → List Value} (hf : ∀ x, (f x).length = k) {l : List α} (h : w.ownsRow B e k u l.length (l.flatMap f)) :
    ∃ A c, u = .slice A l.length c ∧ l.length ≤ c ∧ (0 < l.length → ∃ b o, A = some ⟨b, o, none⟩ ∧ ∀ i (h : i < l.length) j v, (f l[i])[j]? = some v → w.cell? ⟨b, o + i * k + j, none⟩ = some v) := by
  have h2 := h
  rcases h.2 with ⟨rfl, h0⟩ | ⟨g, cap, cur, rfl, _, _, hn, _⟩
  · exact ⟨none, 0, by rw [h0], by omega, fun hp => absurd hp (by omega)⟩
  · refine ⟨_, cap, rfl, hn, fun _ => ⟨g, 0, rfl, fun i hi j v hv => ?_⟩⟩
    have hj : j < k := by have := (List.getElem?_eq_some_iff.1 hv).1; rw [hf] at this; exact this
    rw [Nat.zero_add]
    have hlt : i * k + j < l.length * k := by
      have h1 : (i + 1) * k ≤ l.length * k := Nat.mul_le_mul_right k hi
      rw [Nat.add_mul] at h1
      omega
    rw [h2.cellAt _ hlt, ren_get hf l i j hi hj]
    exact hv
end
section
variable {w w' : World} {B : Nat} {u : Value}
theorem ren_trms {l : List Trm} (h : w.ownsRow B 146 4 u l.length (l.flatMap cellsT)) : ∃ A c, u = .slice A l.length c ∧ TrmsAt w A l ∧ l.length ≤ c := by
  obtain ⟨A, c, h1, h2, h3⟩ := ren_gen (f := cellsT) (k := 4) (fun _ => rfl) h
  refine ⟨A, c, h1, fun hp => ?_, h2⟩
  obtain ⟨b, o, e, hc⟩ := h3 hp
  exact ⟨b, o, e, fun i hi => ⟨hc i hi 0 _ rfl, hc i hi 1 _ rfl, hc i hi 2 _ rfl, hc i hi 3 _ rfl⟩⟩
theorem ren_cnds {l : List Cnd} (h : w.ownsRow B 115 5 u l.length (l.flatMap cellsC)) : ∃ A c, u = .slice A l.length c ∧ CndsAt w A l ∧ l.length ≤ c := by
  obtain ⟨A, c, h1, h2, h3⟩ := ren_gen (f := cellsC) (k := 5) (fun _ => rfl) h
  refine ⟨A, c, h1, fun hp => ?_, h2⟩
  obtain ⟨b, o, e, hc⟩ := h3 hp
  exact ⟨b, o, e, fun i hi => ⟨hc i hi 0 _ rfl, hc i hi 1 _ rfl, hc i hi 2 _ rfl, hc i hi 3 _ rfl, hc i hi 4 _ rfl⟩⟩
theorem ren_keys {l : List Ky} (h : w.ownsRow B 37 2 u l.length (l.flatMap cellsK)) : ∃ A c, u = .slice A l.length c ∧ KysAt w A l ∧ l.length ≤ c := by
  obtain ⟨A, c, h1, h2, h3⟩ := ren_gen (f := cellsK) (k := 2) (fun _ => rfl) h
  refine ⟨A, c, h1, fun hp => ?_, h2⟩
  obtain ⟨b, o, e, hc⟩ := h3 hp
  exact ⟨b, o, e, fun i hi => ⟨hc i hi 0 _ rfl, hc i hi 1 _ rfl⟩⟩
/-- Atoms, us the slices of their terms. -/
def atC (l : List Atm) (us : List Value) : List Value := (l.zip us).flatMap fun p => [.bool p.1.neg, .string ⟨p.1.rel.toArray⟩, p.2]
def OwnAts (w : World) (B : Nat) (u : Value) (l : List Atm) : Prop := ∃ us : List Value, us.length = l.length ∧ w.ownsRow B 111 3 u l.length (atC l us) ∧ ∀ i (_ : i < us.length) (_ : i < l.length), w.ownsRow B 146 4 us[i] l[i].ts.length (l[i].ts.flatMap cellsT)
theorem OwnAts.nil : OwnAts w B (.slice none 0 0) [] := ⟨[], rfl, World.ownsRow_nil _ _ _ _, fun i hi => absurd hi (by simp)⟩
theorem OwnAts.below {l : List Atm} (h : OwnAts w B u l) (hb : Below w.heap.size w w') : OwnAts w' B u l :=
  let ⟨us, h0, h1, h2⟩ := h; ⟨us, h0, own_belowS h1 hb, fun i hi hi' => own_belowS (h2 i hi hi') hb⟩
theorem OwnAts.mono {B' : Nat} {l : List Atm} (h : OwnAts w B' u l) (hB : B ≤ B') : OwnAts w B u l :=
  let ⟨us, h0, h1, h2⟩ := h; ⟨us, h0, ren_mono h1 hB, fun i hi hi' => ren_mono (h2 i hi hi') hB⟩
theorem OwnAts.far {t : Nat} {l : List Atm} (h : OwnAts w B u l) (hg : w.grownBy w' (some t)) (ht : t < B) : OwnAts w' B u l :=
  let ⟨us, h0, h1, h2⟩ := h; ⟨us, h0, ren_far h1 hg ht, fun i hi hi' => ren_far (h2 i hi hi') hg ht⟩
theorem OwnAts.kept {l : List Atm} (h : OwnAts w B u l) {B2 e2 z2 n2 : Nat} {v2 : Value} {x2 : List Value} (h2 : w.ownsRow B2 e2 z2 v2 n2 x2) (he : e2 ≠ 111 ∧ e2 ≠ 146) (hg : w.grownBy w' v2.ownBlock) : OwnAts w' B u l :=
  let ⟨us, h0, h1, h3⟩ := h; ⟨us, h0, h1.kept hg (ren_apart h1 h2 (fun e => he.1 e.symm)), fun i hi hi' => (h3 i hi hi').kept hg (ren_apart (h3 i hi hi') h2 (fun e => he.2 e.symm))⟩
theorem atC_push {l : List Atm} {us : List Value} (h : us.length = l.length) (a : Atm) (v : Value) : atC (l ++ [a]) (us ++ [v]) = atC l us ++ [.bool a.neg, .string ⟨a.rel.toArray⟩, v] := by
  unfold atC
  rw [List.zip_append h.symm, List.flatMap_append]; rfl
theorem OwnAts.push {l : List Atm} {us : List Value} {a : Atm} {ut v8 : Value} (h0 : us.length = l.length) (h1 : w.ownsRow B 111 3 u l.length (atC l us)) (h2 : ∀ i (_ : i < us.length) (_ : i < l.length), w.ownsRow B 146 4 us[i] l[i].ts.length (l[i].ts.flatMap cellsT))
    (ht : w.ownsRow B 146 4 ut a.ts.length (a.ts.flatMap cellsT)) (hg : w.grownBy w' u.ownBlock) {n : Nat} (hn : l.length + 1 = n) (h8 : w'.ownsRow B 111 3 v8 n (atC l us ++ [.bool a.neg, .string ⟨a.rel.toArray⟩, ut])) : OwnAts w' B v8 (l ++ [a]) := by
  subst hn
  refine ⟨us ++ [ut], by simp [h0], by rw [atC_push h0, List.length_append]; exact h8, fun i hi hi' => ?_⟩
  by_cases hh : i < us.length
  · rw [List.getElem_append_left hh]
    have e : (l ++ [a])[i] = l[i]'(by omega) := List.getElem_append_left (by omega)
    rw [e]
    exact (h2 i hh (by omega)).kept hg (ren_apart (h2 i hh (by omega)) h1 (by decide))
  · have : i = us.length := by simp at hi; omega
    subst this
    simp only [List.getElem_concat_length]
    have e : (l ++ [a])[us.length]'hi' = a := by simp [h0]
    rw [e]
    exact ht.kept hg (ren_apart ht h1 (by decide))
theorem ren_atms {l : List Atm} (h : OwnAts w B u l) (hb : ∀ a ∈ l, a.ts.length ≤ 9223372036854775807) : ∃ A c, u = .slice A l.length c ∧ AtmsAt w A l ∧ l.length ≤ c := by
  obtain ⟨us, h0, h1, h2⟩ := h
  have hz : (l.zip us).length = l.length := by simp [h0]
  rw [← hz] at h1
  obtain ⟨A, c, e1, h3, h4⟩ := ren_gen (f := fun p : Atm × Value => [.bool p.1.neg, .string ⟨p.1.rel.toArray⟩, p.2]) (k := 3) (fun _ => rfl) h1
  rw [hz] at e1 h3
  refine ⟨A, c, e1, fun hp => ?_, by omega⟩
  obtain ⟨b, o, e, hc⟩ := h4 (by omega)
  refine ⟨b, o, e, fun i hi => ?_⟩
  obtain ⟨T, ct, eu, ht, hlt⟩ := ren_trms (h2 i (by omega) hi)
  have hi2 : i < (l.zip us).length := by omega
  refine ⟨T, ct, ?_, ?_, ?_, ht, hlt, hb _ (List.getElem_mem hi)⟩
  · have := hc i hi2 0 _ rfl
    simpa using this
  · have := hc i hi2 1 _ rfl
    simpa using this
  · have := hc i hi2 2 _ rfl
    rw [List.getElem_zip, eu] at this
    exact this
/-- Rules. -/
def rlC (us vs : List Value) : List Value := (us.zip vs).flatMap fun p => [p.1, p.2]
def OwnRls (w : World) (B : Nat) (u : Value) (l : List Rul) : Prop := ∃ us vs : List Value, us.length = l.length ∧ vs.length = l.length ∧ w.ownsRow B 42 2 u l.length (rlC us vs) ∧ ∀ i (_ : i < us.length) (_ : i < vs.length) (_ : i < l.length), OwnAts w B us[i] l[i].atoms ∧ w.ownsRow B 115 5 vs[i] l[i].conds.length (l[i].conds.flatMap cellsC)
theorem OwnRls.nil : OwnRls w B (.slice none 0 0) [] := ⟨[], [], rfl, rfl, World.ownsRow_nil _ _ _ _, fun i hi => absurd hi (by simp)⟩
theorem OwnRls.below {l : List Rul} (h : OwnRls w B u l) (hb : Below w.heap.size w w') : OwnRls w' B u l :=
  let ⟨us, vs, h0, h1, h2, h3⟩ := h; ⟨us, vs, h0, h1, own_belowS h2 hb, fun i a b c => ⟨(h3 i a b c).1.below hb, own_belowS (h3 i a b c).2 hb⟩⟩
theorem OwnRls.far {t : Nat} {l : List Rul} (h : OwnRls w B u l) (hg : w.grownBy w' (some t)) (ht : t < B) : OwnRls w' B u l :=
  let ⟨us, vs, h0, h1, h2, h3⟩ := h; ⟨us, vs, h0, h1, ren_far h2 hg ht, fun i a b c => ⟨(h3 i a b c).1.far hg ht, ren_far (h3 i a b c).2 hg ht⟩⟩
theorem OwnRls.kept {l : List Rul} (h : OwnRls w B u l) {B2 e2 z2 n2 : Nat} {v2 : Value} {x2 : List Value} (h2 : w.ownsRow B2 e2 z2 v2 n2 x2) (he : e2 ≠ 111 ∧ e2 ≠ 146 ∧ e2 ≠ 115 ∧ e2 ≠ 42) (hg : w.grownBy w' v2.ownBlock) : OwnRls w' B u l :=
  let ⟨us, vs, h0, h1, h3, h4⟩ := h; ⟨us, vs, h0, h1, h3.kept hg (ren_apart h3 h2 (fun e => he.2.2.2 e.symm)), fun i a b c => ⟨(h4 i a b c).1.kept h2 ⟨he.1, he.2.1⟩ hg, (h4 i a b c).2.kept hg (ren_apart (h4 i a b c).2 h2 (fun e => he.2.2.1 e.symm))⟩⟩
theorem rlC_push {us vs : List Value} (h : us.length = vs.length) (v d : Value) : rlC (us ++ [v]) (vs ++ [d]) = rlC us vs ++ [v, d] := by
  unfold rlC
  rw [List.zip_append h, List.flatMap_append]; rfl
theorem OwnRls.push {l : List Rul} {us vs : List Value} {r : Rul} {ua uc v8 : Value} (h0 : us.length = l.length) (h1 : vs.length = l.length) (h2 : w.ownsRow B 42 2 u l.length (rlC us vs))
    (h3 : ∀ i (_ : i < us.length) (_ : i < vs.length) (_ : i < l.length), OwnAts w B us[i] l[i].atoms ∧ w.ownsRow B 115 5 vs[i] l[i].conds.length (l[i].conds.flatMap cellsC))
    (ha : OwnAts w B ua r.atoms) (hc : w.ownsRow B 115 5 uc r.conds.length (r.conds.flatMap cellsC)) (hg : w.grownBy w' u.ownBlock) {n : Nat} (hn : l.length + 1 = n) (h8 : w'.ownsRow B 42 2 v8 n (rlC us vs ++ [ua, uc])) : OwnRls w' B v8 (l ++ [r]) := by
  subst hn
  refine ⟨us ++ [ua], vs ++ [uc], by simp [h0], by simp [h1], by rw [rlC_push (h0.trans h1.symm), List.length_append]; exact h8, fun i hi hi2 hi' => ?_⟩
  by_cases hh : i < us.length
  · rw [List.getElem_append_left hh, List.getElem_append_left (show i < vs.length by omega)]
    have e : (l ++ [r])[i] = l[i]'(by omega) := List.getElem_append_left (by omega)
    rw [e]
    obtain ⟨a, b⟩ := h3 i hh (by omega) (by omega)
    exact ⟨a.kept h2 (by decide) hg, b.kept hg (ren_apart b h2 (by decide))⟩
  · have : i = us.length := by simp at hi; omega
    subst this
    have e : (l ++ [r])[us.length]'hi' = r := by simp [h0]
    have e2 : (vs ++ [uc])[us.length]'hi2 = uc := by simp [h0, h1]
    rw [e, e2]
    simp only [List.getElem_concat_length]
    exact ⟨ha.kept h2 (by decide) hg, hc.kept hg (ren_apart hc h2 (by decide))⟩
/-- Few enough to be copied. -/
structure Rul.some (r : Rul) : Prop where
  a : r.atoms.length ≤ 100000
  c : r.conds.length ≤ 100000
  t : ∀ a ∈ r.atoms, a.ts.length ≤ 100000
theorem ren_ruls {l : List Rul} (h : OwnRls w B u l) (hb : ∀ r ∈ l, r.some) : ∃ A c, u = .slice A l.length c ∧ RulsAt w A l ∧ l.length ≤ c := by
  obtain ⟨us, vs, h0, h1, h2, h3⟩ := h
  have hz : (us.zip vs).length = l.length := by simp [h0, h1]
  rw [← hz] at h2
  obtain ⟨A, c, e1, h4, h5⟩ := ren_gen (f := fun p : Value × Value => [p.1, p.2]) (k := 2) (fun _ => rfl) h2
  rw [hz] at e1 h4
  refine ⟨A, c, e1, fun hp => ?_, by omega⟩
  obtain ⟨b, o, e, hc⟩ := h5 (by omega)
  refine ⟨b, o, e, fun i hi => ?_⟩
  obtain ⟨g1, g2⟩ := h3 i (by omega) (by omega) hi
  have hf := hb _ (List.getElem_mem hi)
  obtain ⟨T, ct, eu, ht, hlt⟩ := ren_atms g1 (fun a ha => by have := hf.t a ha; omega)
  obtain ⟨T2, ct2, eu2, ht2, hlt2⟩ := ren_cnds g2
  have hi2 : i < (us.zip vs).length := by omega
  refine ⟨T, ct, T2, ct2, ?_, ?_, ht, ht2, hlt, hlt2, by have := hf.a; omega, by have := hf.c; omega⟩
  · have := hc i hi2 0 _ rfl
    rw [List.getElem_zip, eu] at this
    exact this
  · have := hc i hi2 1 _ rfl
    rw [List.getElem_zip, eu2] at this
    exact this
/-- The cells of a box of the call's own behind one for the query. -/
theorem rpl_cells {v0 v1 v2 v3 v4 : Value} {t : TypeId} {o : Obj} (h : Below (w.heap.size + 1 + 1) ((w.alloc (.cells #[v0, v1, v2, v3, v4] t)).alloc o) w') :
    w'.cell? ⟨w.heap.size, 0, none⟩ = some v0 ∧ w'.cell? ⟨w.heap.size, 1, none⟩ = some v1 ∧ w'.cell? ⟨w.heap.size, 2, none⟩ = some v2 ∧ w'.cell? ⟨w.heap.size, 3, none⟩ = some v3 ∧ w'.cell? ⟨w.heap.size, 4, none⟩ = some v4 ∧
    w'.heap[w.heap.size + 1]? = some o ∧ w.heap.size + 1 < w'.heap.size ∧ Below w.heap.size w w' := by
  have hA : Below (w.heap.size + 1) (w.alloc (.cells #[v0, v1, v2, v3, v4] t)) w' := ((Below.refl _ _).alloc (by simp) _).trans (h.mono (by omega))
  obtain ⟨a, b, c, d, e, _, g⟩ := qry_cells hA
  refine ⟨a, b, c, d, e, ?_, ?_, g⟩
  · rw [h.block _ (by omega)]
    have := heap_alloc_new (w.alloc (.cells #[v0, v1, v2, v3, v4] t)) o
    simpa using this
  · have := h.size
    simp at this
    omega
/-- Behind the first two blocks of the walk. -/
def QIn (w : World) (v0 v1 v2 v3 v4 : Value) (t : TypeId) (o : Obj) (w' : World) : Prop := Below (w.heap.size + 1 + 1) ((w.alloc (.cells #[v0, v1, v2, v3, v4] t)).alloc o) w'
theorem QIn.cells {v0 v1 v2 v3 v4 : Value} {t : TypeId} {o : Obj} (h : QIn w v0 v1 v2 v3 v4 t o w') :
    w'.cell? ⟨w.heap.size, 0, none⟩ = some v0 ∧ w'.cell? ⟨w.heap.size, 1, none⟩ = some v1 ∧ w'.cell? ⟨w.heap.size, 2, none⟩ = some v2 ∧ w'.cell? ⟨w.heap.size, 3, none⟩ = some v3 ∧ w'.cell? ⟨w.heap.size, 4, none⟩ = some v4 ∧
    w'.heap[w.heap.size + 1]? = some o ∧ w.heap.size + 1 < w'.heap.size ∧ Below w.heap.size w w' := rpl_cells h
theorem QIn.on {w2 : World} {v0 v1 v2 v3 v4 : Value} {t : TypeId} {o : Obj} {B : Nat} (h : QIn w v0 v1 v2 v3 v4 t o w') (hb : Below B w' w2) (hB : w.heap.size + 1 + 1 ≤ B) : QIn w v0 v1 v2 v3 v4 t o w2 := Below.trans h (hb.mono hB)
theorem QIn.size {v0 v1 v2 v3 v4 : Value} {t : TypeId} {o : Obj} (h : QIn w v0 v1 v2 v3 v4 t o w') : w.heap.size + 1 + 1 ≤ w'.heap.size := by
  have := Below.size h
  simpa using this
theorem QIn.refl {v0 v1 v2 v3 v4 : Value} {t : TypeId} {o : Obj} : QIn w v0 v1 v2 v3 v4 t o ((w.alloc (.cells #[v0, v1, v2, v3, v4] t)).alloc o) := Below.refl _ _
end
section
variable {w w' : World} {B : Nat} {u : Value}
/-- The blocks from B on lie as they did. -/
def Over (B : Nat) (w w' : World) : Prop := ∀ b, B ≤ b → b < w.heap.size → w'.heap[b]? = w.heap[b]?
theorem ren_over {e k n : Nat} {v : Value} {xs : List Value} (h : w.ownsRow B e k v n xs) (ho : Over B w w') : w'.ownsRow B e k v n xs := by
  obtain ⟨hl, h0 | ⟨g, cap, cur, hv, hg, hh, r⟩⟩ := h
  · exact ⟨hl, .inl h0⟩
  · exact ⟨hl, .inr ⟨g, cap, cur, hv, hg, (ho g hg (lt_of_block hh)).trans hh, r⟩⟩
theorem OwnAts.over {l : List Atm} (h : OwnAts w B u l) (ho : Over B w w') : OwnAts w' B u l :=
  let ⟨us, h0, h1, h2⟩ := h; ⟨us, h0, ren_over h1 ho, fun i hi hi' => ren_over (h2 i hi hi') ho⟩
theorem OwnRls.over {l : List Rul} (h : OwnRls w B u l) (ho : Over B w w') : OwnRls w' B u l :=
  let ⟨us, vs, h0, h1, h2, h3⟩ := h; ⟨us, vs, h0, h1, ren_over h2 ho, fun i a b c => ⟨(h3 i a b c).1.over ho, ren_over (h3 i a b c).2 ho⟩⟩
theorem Over.mono {B' : Nat} (h : Over B w w') (hB : B ≤ B') : Over B' w w' := fun b hb hl => h b (by omega) hl
end
/-- A query that is few. -/
structure Qry.some (q : Qry) : Prop where
  h : q.head.length ≤ 100000
  r : q.rules.length ≤ 100000
  o : q.order.length ≤ 100000
  s : ∀ r ∈ q.rules, r.some
theorem some_map {f : Str → Str} {r : Rul} (h : r.some) : (mapR f r).some := ⟨by simp only [mapR, List.length_map]; exact h.a, by simp only [mapR, List.length_map]; exact h.c, fun a ha => by
  obtain ⟨b, hb, rfl⟩ := List.mem_map.1 ha
  simp only [mapA, List.length_map]; exact h.t b hb⟩
/-- What replace returns: a query in memory. -/
def RetQ (w : World) (q : Qry) (e : Ending) (w' : World) : Prop := ∃ A R O ch cr co, e = .returned (qryV q A R O ch cr co) ∧ (∀ w2, Over w.heap.size w' w2 → QryIn w2 q A R O ch cr co) ∧ Below w.heap.size w w'
end

/-! ### Ps2 -/
section
open Go.RowKit

theorem infoStrP : (Tryz.prog.info? 9).map (fun i => (i.zero, i.size, i.bytes)) = some (some (.string ⟨#[]⟩), 1, 16) := by kernel_rfl
theorem infoKyP : (Tryz.prog.info? 37).map (fun i => (i.zero, i.size, i.bytes)) = some (some (.agg #[.string ⟨#[]⟩, .bool false]), 2, 24) := by kernel_rfl
/-- What names returns. -/
def RetNs (w : World) (o : Out (List Str)) (e : Ending) (w' : World) : Prop := match o with
  | .bad b => e = .returned (.tuple #[.slice none 0 0, .int .i64 b, .int .i64 b]) ∧ Below w.heap.size w w'
  | .ok l nx => ∃ u, e = .returned (.tuple #[u, .int .i64 nx, .int .i64 (-1)]) ∧ w'.ownsRow w.heap.size 9 1 u l.length (l.map nmV) ∧ Below w.heap.size w w'
def RetKs (w : World) (o : Out (List Ky)) (e : Ending) (w' : World) : Prop := match o with
  | .bad b => e = .returned (.tuple #[.slice none 0 0, .int .i64 b, .int .i64 b]) ∧ Below w.heap.size w w'
  | .ok l nx => ∃ u, e = .returned (.tuple #[u, .int .i64 nx, .int .i64 (-1)]) ∧ w'.ownsRow w.heap.size 37 2 u l.length (l.flatMap cellsK) ∧ Below w.heap.size w w'

set_option maxRecDepth 100000 in
set_option maxHeartbeats 2000000 in
theorem ref_names (A : Option Addr) (c n i : Nat) (L : List Tok) (w : World) (hT : RefTk w A L) (hi : i < L.length) (hn : n = L.length + 3) {x : Out (List Str)} (hx : namesS (tkL L) L.length i [] = x) :
    Calls Tryz.prog 83 #[.slice A n c, .int .i64 i] w (RetNs w x) := by
  obtain ⟨i0, hi0, hz0, hz1, hz2⟩ := info_parts infoStrP
  have HT := hid hT
  have HX := hid hx
  have HIs := hid (fun (W : World) (kW : Below w.heap.size w W) (j : Nat) (hj : j < L.length + 3) (z : Bool) (hz : isT (tkL L j) sComma = z) => ref_is A c n j L sComma W (hT.below kW) hj hn hz)
  have hL := hT.few
  have hln : L.length ≤ n := by omega
  have Hn := hid hn
  clear hT hx hn
  go_enter Tryz.func83, Tryz.ntmps83
  go_wp2
  go_loopw [1, 7] (fun vi vo wr => ∃ (f j : Nat) (acc : List Str), vi = .int .i64 j ∧ j < L.length ∧ L.length ≤ f + j ∧ acc.length ≤ j ∧ Hid (namesS (tkL L) f j acc = x) ∧ Hid (wr.ownsRow w.heap.size 9 1 vo acc.length (acc.map nmV)) ∧ Below w.heap.size w wr) (fun vi _ _ => L.length - (intOf vi).toNat)
  case atStart => exact ⟨L.length, i, [], rfl, hi, by omega, by simp, HX, hid (World.ownsRow_nil _ _ _ _), Below.refl _ _⟩
  case round =>
    obtain ⟨f, j, acc, rfl, hj, hf, ha, HS, HO, hbel⟩ := hrel
    clear HX
    have hsz := hbel.size
    obtain ⟨b, o, rfl, h0, h1⟩ := (HT.out.below hbel).cells (show j < L.length + 3 by omega)
    have hE := HT.out.ended
    obtain ⟨f', hf'⟩ : ∃ g, f = g + 1 := ⟨f - 1, by omega⟩
    have hS := HS.out
    rw [hf'] at hS
    unfold namesS at hS
    by_cases hk : (tkL L j).k = 1
    · rw [if_neg (by rw [hk]; decide)] at hS
      have hj1 : j + 1 < L.length := hE.one hk
      obtain ⟨z, hz⟩ : ∃ z, isT (tkL L (j + 1)) sComma = z := ⟨_, rfl⟩
      have HI := hid (fun W kW => HIs.out W kW (j + 1) (by omega) z hz)
      rw [hk] at h0
      rw [hz] at hS
      have hj2 : z = true → j + 2 < L.length := fun h => hE.isT (hz.trans h)
      have hS2 := hid hS
      have Hj2 := hid hj2
      have Hf := hid hf'
      clear hS hz hk hE HS hf' hj2
      generalize tkL L j = t at *
      have hown := HO.out
      go_upto_region 5 with (at_builtin; refine wpList_append_new2 Tryz.underlying23 hi0 hz0 hz1 hz2 rfl (by decide) (by decide) rfl rfl rfl hown rfl (by simp) rfl rfl (by omega) (by omega) ?_; intro v2 w2 hown2 hg2)
      have k2 : Below w.heap.size w w2 := hbel.trans (grown_below hown hg2 (by omega))
      have hI := HI.out w2 k2
      have HO2 : Hid (w2.ownsRow w.heap.size 9 1 v2 (acc ++ [t.t]).length ((acc ++ [t.t]).map nmV)) := hid (by rw [List.map_append, List.length_append]; exact hown2)
      clear HI hown hown2 hg2 HO h0 h1
      rw [show (((j + 1 : Nat)) : Int) = (j : Int) + 1 by omega] at hI
      have HI2 := hid hI
      clear hI
      cases z with
      | true =>
        rw [if_pos rfl] at hS2
        have j2 := Hj2.out rfl
        go_wp2_with fail
        refine HI2.out.mono ?_
        rintro e w3 ⟨rfl, b3⟩
        have k3 := k2.trans (b3.mono k2.size)
        have HO3 := hid (own_belowS HO2.out b3)
        go_wp2
        go_roundw
        case rel => exact ⟨f', j + 2, acc ++ [t.t], by go_num, j2, by have := Hf.out; omega, by simp; omega, hS2, HO3, k3⟩
        case measure => simp [intOf]; omega
      | false =>
        rw [if_neg (by decide)] at hS2
        have hx2 := hS2.out
        subst hx2
        go_wp2_with fail
        refine HI2.out.mono ?_
        rintro e w3 ⟨rfl, b3⟩
        have k3 := k2.trans (b3.mono k2.size)
        have HO3 := hid (own_belowS HO2.out b3)
        go_wp2
        go_ret3
        exact ⟨v2, rfl, HO3.out, k3⟩
    · rw [if_pos hk] at hS
      have hx2 := hS
      subst hx2
      have dk : ((tkL L j).k == 1) = false := by simpa using hk
      generalize tkL L j = t at *
      clear HS hk
      go_wp2
      go_ret3
      exact ⟨rfl, hbel⟩

/-- A box that has just been laid, behind a call. -/
theorem box_kept {w w1 : World} {cs : Array Value} {t : TypeId} (h : Below (w.alloc (.cells cs t)).heap.size (w.alloc (.cells cs t)) w1) : w1.heap[w.heap.size]? = some (.cells cs t) := (h.block _ (by simp)).trans (heap_alloc_new w _)
theorem box_cell {w : World} {g : Nat} {cs : Array Value} {t : TypeId} (h : w.heap[g]? = some (.cells cs t)) (k : Nat) : w.cell? ⟨g, k, none⟩ = cs[k]? := cell_of_row w g k cs t (0, 0) h
theorem box_free {w : World} {g : Nat} {cs : Array Value} {t : TypeId} (h : w.heap[g]? = some (.cells cs t)) (k : Nat) : w.frozen? ⟨g, k, none⟩ = false := by simp [World.frozen?, h]
abbrev keyO (s : Str) : Obj := .cells #[.string ⟨s.toArray⟩, .bool false] 37

set_option maxRecDepth 100000 in
set_option maxHeartbeats 2000000 in
theorem ref_keys (A : Option Addr) (c n i : Nat) (L : List Tok) (w : World) (hT : RefTk w A L) (hi : i < L.length) (hn : n = L.length + 3) {x : Out (List Ky)} (hx : keysS (tkL L) L.length i [] = x) :
    Calls Tryz.prog 53 #[.slice A n c, .int .i64 i] w (RetKs w x) := by
  obtain ⟨i0, hi0, hz0, hz1, hz2⟩ := info_parts infoKyP
  have HT := hid hT
  have HX := hid hx
  have HIs := hid (fun (W : World) (kW : Below w.heap.size w W) (s : Str) (j : Nat) (hj : j < L.length + 3) (z : Bool) (hz : isT (tkL L j) s = z) => ref_is A c n j L s W (hT.below kW) hj hn hz)
  have hL := hT.few
  have hln : L.length ≤ n := by omega
  clear hT hx hn
  go_enter Tryz.func53, Tryz.ntmps53
  go_wp2
  go_loopw [1, 7] (fun vi vo wr => ∃ (f j : Nat) (acc : List Ky), vi = .int .i64 j ∧ j < L.length ∧ L.length ≤ f + j ∧ acc.length ≤ j ∧ Hid (keysS (tkL L) f j acc = x) ∧ Hid (wr.ownsRow w.heap.size 37 2 vo acc.length (acc.flatMap cellsK)) ∧ Below w.heap.size w wr) (fun vi _ _ => L.length - (intOf vi).toNat)
  case atStart => exact ⟨L.length, i, [], rfl, hi, by omega, by simp, HX, hid (World.ownsRow_nil _ _ _ _), Below.refl _ _⟩
  case round =>
    obtain ⟨f, j, acc, rfl, hj, hf, ha, HS, HO, hbel⟩ := hrel
    clear HX
    have hsz := hbel.size
    obtain ⟨b, o, rfl, h0, h1⟩ := (HT.out.below hbel).cells (show j < L.length + 3 by omega)
    have hE := HT.out.ended
    obtain ⟨f', hf'⟩ : ∃ g, f = g + 1 := ⟨f - 1, by omega⟩
    have hS := HS.out
    rw [hf'] at hS
    unfold keysS at hS
    by_cases hk : (tkL L j).k = 1
    · rw [if_neg (by rw [hk]; decide)] at hS
      have hj1 : j + 1 < L.length := hE.one hk
      obtain ⟨y, hy⟩ : ∃ y, isT (tkL L (j + 1)) sDesc = y := ⟨_, rfl⟩
      have HI1 := hid (fun W kW => HIs.out W kW sDesc (j + 1) (by omega) y hy)
      rw [hk] at h0
      simp only [hy] at hS
      have hj2 : y = true → j + 2 < L.length := fun h => hE.isT (hy.trans h)
      have HI2 := hid (fun W kW jj (hjj : jj < L.length + 3) z hz => HIs.out W kW sComma jj hjj z hz)
      have HJ := hid (fun jj z (hz : isT (tkL L jj) sComma = z) (h : z = true) => hE.isT (hz.trans h))
      have Hf := hid hf'
      have HSS := hid hS
      clear hS hk hE HS hf' HIs hy
      generalize tkL L j = t at *
      have k0 : Below w.heap.size w (wr.alloc (keyO t.t)) := hbel.alloc hsz _
      have hI := HI1.out _ k0
      rw [show (((j + 1 : Nat)) : Int) = (j : Int) + 1 by omega] at hI
      have HI1' := hid hI
      clear hI HI1
      go_wp2_with fail
      refine HI1'.out.mono ?_
      rintro e w2 ⟨rfl, b2⟩
      have hne : Value.ownBlock u7 ≠ some wr.heap.size := fun e => by have := (HO.out.lt _ e).2; omega
      have hp := box_kept b2
      have c0 := box_cell hp 0
      have c1 := box_cell hp 1
      have f1 := box_free hp 1
      have k2 := k0.trans (b2.mono k0.size)
      have HO2 := hid (own_belowS (own_belowS HO.out (below_one wr (keyO t.t))) b2)
      have hge := k2.size
      have hbs := b2.size
      simp at hbs
      clear HI1' b2 k0 hp HO
      have hS := HSS.out
      have Hne := hid hne
      clear HSS hne
      cases y with
      | true =>
        have hj3 : j + 2 < L.length := hj2 rfl
        simp only [if_pos] at hS
        have kS : Below w.heap.size w (w2.setCell ⟨wr.heap.size, 1, none⟩ (.bool true)) := k2.setCell (p := ⟨wr.heap.size, 1, none⟩) hsz _
        have HO3 := hid (HO2.out.kept (ren_set w2 wr.heap.size 1 (.bool true)) (.inr Hne.out))
        have hown := HO3.out
        have hse : (w2.setCell ⟨wr.heap.size, 1, none⟩ (.bool true)).heap.size = w2.heap.size := by simp [World.setCell]
        go_upto_region 10 with (at_builtin; refine wpList_append_new2 Tryz.underlying25 hi0 hz0 hz1 hz2 rfl (by decide) (by decide) rfl rfl rfl hown rfl (by simp [World.setCell]) rfl rfl (by omega) (by omega) ?_; intro v4 w4 hown4 hg4)
        have k4 : Below w.heap.size w w4 := kS.trans (grown_below hown hg4 (by omega))
        have HO4 : Hid (w4.ownsRow w.heap.size 37 2 v4 (acc ++ [(⟨t.t, true⟩ : Ky)]).length ((acc ++ [(⟨t.t, true⟩ : Ky)]).flatMap cellsK)) := hid (by rw [List.flatMap_append, List.length_append]; exact hown4)
        clear hown hown4 hg4 HO3 HO2 c0 c1 f1 kS hj2 k2
        obtain ⟨z, hz⟩ : ∃ z, isT (tkL L (j + 2)) sComma = z := ⟨_, rfl⟩
        rw [hz] at hS
        have hI := HI2.out w4 k4 (j + 2) (by omega) z hz
        have hJz := HJ.out (j + 2) z hz
        rw [show (((j + 2 : Nat)) : Int) = (j : Int) + 2 by omega] at hI
        have HIz := hid hI
        clear hI HI2 HJ hz
        cases z with
        | true =>
          rw [if_pos rfl] at hS
          have hS2 := hid hS
          have j2 := hJz rfl
          clear hS hJz
          go_wp2_with fail
          refine HIz.out.mono ?_
          rintro e w5 ⟨rfl, b5⟩
          have k5 := k4.trans (b5.mono k4.size)
          have HO5 := hid (own_belowS HO4.out b5)
          go_wp2
          go_roundw
          case rel => exact ⟨f', j + 2 + 1, _, by go_num, j2, by have := Hf.out; omega, by simp; omega, hS2, HO5, k5⟩
          case measure => simp [intOf]; omega
        | false =>
          rw [if_neg (by decide)] at hS
          have hx2 := hS
          subst hx2
          clear hJz
          go_wp2_with fail
          refine HIz.out.mono ?_
          rintro e w5 ⟨rfl, b5⟩
          have k5 := k4.trans (b5.mono k4.size)
          have HO5 := hid (own_belowS HO4.out b5)
          go_wp2
          go_ret3
          exact ⟨v4, rfl, HO5.out, k5⟩
      | false =>
        simp only [if_neg (show ¬ (false = true) by decide)] at hS
        have hown := HO2.out
        go_upto_region 10 with (at_builtin; refine wpList_append_new2 Tryz.underlying25 hi0 hz0 hz1 hz2 rfl (by decide) (by decide) rfl rfl rfl hown rfl (by simp) rfl rfl (by omega) (by omega) ?_; intro v4 w4 hown4 hg4)
        have k4 : Below w.heap.size w w4 := k2.trans (grown_below hown hg4 (by omega))
        have HO4 : Hid (w4.ownsRow w.heap.size 37 2 v4 (acc ++ [(⟨t.t, false⟩ : Ky)]).length ((acc ++ [(⟨t.t, false⟩ : Ky)]).flatMap cellsK)) := hid (by rw [List.flatMap_append, List.length_append]; exact hown4)
        clear hown hown4 hg4 HO2 c0 c1 f1 hj2 k2
        obtain ⟨z, hz⟩ : ∃ z, isT (tkL L (j + 1)) sComma = z := ⟨_, rfl⟩
        rw [hz] at hS
        have hI := HI2.out w4 k4 (j + 1) (by omega) z hz
        have hJz := HJ.out (j + 1) z hz
        rw [show (((j + 1 : Nat)) : Int) = (j : Int) + 1 by omega] at hI
        have HIz := hid hI
        clear hI HI2 HJ hz
        cases z with
        | true =>
          rw [if_pos rfl] at hS
          have hS2 := hid hS
          have j2 := hJz rfl
          clear hS hJz
          go_wp2_with fail
          refine HIz.out.mono ?_
          rintro e w5 ⟨rfl, b5⟩
          have k5 := k4.trans (b5.mono k4.size)
          have HO5 := hid (own_belowS HO4.out b5)
          go_wp2
          go_roundw
          case rel => exact ⟨f', j + 1 + 1, _, by go_num, j2, by have := Hf.out; omega, by simp; omega, hS2, HO5, k5⟩
          case measure => simp [intOf]; omega
        | false =>
          rw [if_neg (by decide)] at hS
          have hx2 := hS
          subst hx2
          clear hJz
          go_wp2_with fail
          refine HIz.out.mono ?_
          rintro e w5 ⟨rfl, b5⟩
          have k5 := k4.trans (b5.mono k4.size)
          have HO5 := hid (own_belowS HO4.out b5)
          go_wp2
          go_ret3
          exact ⟨v4, rfl, HO5.out, k5⟩
    · rw [if_pos hk] at hS
      have hx2 := hS
      subst hx2
      have dk : ((tkL L j).k == 1) = false := by simpa using hk
      generalize tkL L j = t at *
      clear HS hk
      go_wp2
      go_ret3
      exact ⟨rfl, hbel⟩
end
end Go.Proofs.YtnbacdmlaedppaaGreatDoor
