/-
  PARTS of a claim, merged by segs.py: RenM, PsW, PgS.
-/
import Derived.Test.YtjhnopnppimnhaaGreatDoorZ12
import Derived.Test.YtjhnopnppimnhaaGreatDoorZ04
import Derived.Test.YtjhnopnppimnhaaGreatDoorZ08
import Derived.Test.YtjhnopnppimnhaaGreatDoorZ05
namespace Go.Proofs.YtjhnopnppimnhaaGreatDoor

/-! ### RenM -/
section
open Go.RowKit

section
variable {w w' : World} {B e k n : Nat} {u v : Value} {xs : List Value}
theorem ren_apart {B1 B2 e1 e2 z1 z2 n1 n2 : Nat} {v1 v2 : Value} {x1 x2 : List Value} (h1 : w.ownsRow B1 e1 z1 v1 n1 x1) (h2 : w.ownsRow B2 e2 z2 v2 n2 x2) (he : e1 ≠ e2) : v1.ownBlock = none ∨ v1.ownBlock ≠ v2.ownBlock := by
  rcases h1.2 with ⟨rfl, _⟩ | ⟨g, cap, cur, rfl, _, hh, _⟩
  · exact .inl rfl
  · refine .inr fun e => ?_
    rcases h2.2 with ⟨rfl, _⟩ | ⟨g', cap', cur', rfl, _, hh', _⟩
    · cases e
    · have e : g = g' := by simpa [Value.ownBlock] using e
      subst e
      rw [hh] at hh'
      injection hh' with hh'
      injection hh' with _ hh' _
      exact he hh'
theorem ren_mono {B' : Nat} (h : w.ownsRow B' e k v n xs) (hB : B ≤ B') : w.ownsRow B e k v n xs := by
  obtain ⟨hl, h0 | ⟨g, cap, cur, hv, hg, hh, r⟩⟩ := h
  · exact ⟨hl, .inl h0⟩
  · exact ⟨hl, .inr ⟨g, cap, cur, hv, by omega, hh, r⟩⟩
theorem ren_far {t : Nat} (h : w.ownsRow B e k v n xs) (hg : w.grownBy w' (some t)) (ht : t < B) : w'.ownsRow B e k v n xs := h.kept hg (.inr (fun e => by have := (h.lt t e).1; omega))
theorem ren_set (w : World) (b i : Nat) (v : Value) : w.grownBy (w.setCell ⟨b, i, none⟩ v) (some b) :=
  ⟨rfl, rfl, rfl, by simp [World.setCell], fun k _ hk => by
    simp only [World.setCell]
    rw [Array.getElem?_modify, if_neg]
    exact fun e => hk (by rw [e])⟩
theorem ren_len {α : Type} {f : α → List Value} (hf : ∀ x, (f x).length = k) (l : List α) : (l.flatMap f).length = l.length * k := by
  induction l with
  | nil => simp
  | cons x l ih => rw [List.flatMap_cons, List.length_append, ih, hf, List.length_cons, Nat.add_mul]; omega
theorem ren_get {α : Type} {f : α → List Value} (hf : ∀ x, (f x).length = k) : ∀ (l : List α) (i j : Nat) (hi : i < l.length), j < k → (l.flatMap f)[i * k + j]? = (f l[i])[j]?
  | x :: l, 0, j, _, hj => by
    rw [List.flatMap_cons, List.getElem?_append_left (by rw [hf]; omega)]
    simp
  | x :: l, i + 1, j, hi, hj => by
    have hi' : i < l.length := by simpa using hi
    rw [List.flatMap_cons, List.getElem?_append_right (by rw [hf, Nat.add_mul]; omega), hf, show (i + 1) * k + j - k = i * k + j by rw [Nat.add_mul]; omega, ren_get hf l i j hi' hj]
    simp
theorem ren_gen {α : Type} {f : α → List Value} (hf : ∀ x, (f x).length = k) {l : List α} (h : w.ownsRow B e k u l.length (l.flatMap f)) :
    ∃ A c, u = .slice A l.length c ∧ l.length ≤ c ∧ (0 < l.length → ∃ b o, A = some ⟨b, o, none⟩ ∧ ∀ i (h : i < l.length) j v, (f l[i])[j]? = some v → w.cell? ⟨b, o + i * k + j, none⟩ = some v) := by
  have h2 := h
  rcases h.2 with ⟨rfl, h0⟩ | ⟨g, cap, cur, rfl, _, _, hn, _⟩
  · exact ⟨none, 0, by rw [h0], by omega, fun hp => absurd hp (by omega)⟩
  · refine ⟨_, cap, rfl, hn, fun _ => ⟨g, 0, rfl, fun i hi j v hv => ?_⟩⟩
    have hj : j < k := by have := (List.getElem?_eq_some_iff.1 hv).1; rw [hf] at this; exact this
    rw [Nat.zero_add]
    have hlt : i * k + j < l.length * k := by
      have h1 : (i + 1) * k ≤ l.length * k := Nat.mul_le_mul_right k hi
      rw [Nat.add_mul] at h1
      omega
    rw [h2.cellAt _ hlt, ren_get hf l i j hi hj]
    exact hv
end
section
variable {w w' : World} {B : Nat} {u : Value}
theorem ren_trms {l : List Trm} (h : w.ownsRow B 201 4 u l.length (l.flatMap cellsT)) : ∃ A c, u = .slice A l.length c ∧ TrmsAt w A l ∧ l.length ≤ c := by
  obtain ⟨A, c, h1, h2, h3⟩ := ren_gen (f := cellsT) (k := 4) (fun _ => rfl) h
  refine ⟨A, c, h1, fun hp => ?_, h2⟩
  obtain ⟨b, o, e, hc⟩ := h3 hp
  exact ⟨b, o, e, fun i hi => ⟨hc i hi 0 _ rfl, hc i hi 1 _ rfl, hc i hi 2 _ rfl, hc i hi 3 _ rfl⟩⟩
theorem ren_cnds {l : List Cnd} (h : w.ownsRow B 192 5 u l.length (l.flatMap cellsC)) : ∃ A c, u = .slice A l.length c ∧ CndsAt w A l ∧ l.length ≤ c := by
  obtain ⟨A, c, h1, h2, h3⟩ := ren_gen (f := cellsC) (k := 5) (fun _ => rfl) h
  refine ⟨A, c, h1, fun hp => ?_, h2⟩
  obtain ⟨b, o, e, hc⟩ := h3 hp
  exact ⟨b, o, e, fun i hi => ⟨hc i hi 0 _ rfl, hc i hi 1 _ rfl, hc i hi 2 _ rfl, hc i hi 3 _ rfl, hc i hi 4 _ rfl⟩⟩
theorem ren_keys {l : List Ky} (h : w.ownsRow B 147 2 u l.length (l.flatMap cellsK)) : ∃ A c, u = .slice A l.length c ∧ KysAt w A l ∧ l.length ≤ c := by
  obtain ⟨A, c, h1, h2, h3⟩ := ren_gen (f := cellsK) (k := 2) (fun _ => rfl) h
  refine ⟨A, c, h1, fun hp => ?_, h2⟩
  obtain ⟨b, o, e, hc⟩ := h3 hp
  exact ⟨b, o, e, fun i hi => ⟨hc i hi 0 _ rfl, hc i hi 1 _ rfl⟩⟩
/-- Atoms, us the slices of their terms. -/
def atC (l : List Atm) (us : List Value) : List Value := (l.zip us).flatMap fun p => [.bool p.1.neg, .string ⟨p.1.rel.toArray⟩, p.2]
def OwnAts (w : World) (B : Nat) (u : Value) (l : List Atm) : Prop := ∃ us : List Value, us.length = l.length ∧ w.ownsRow B 188 3 u l.length (atC l us) ∧ ∀ i (_ : i < us.length) (_ : i < l.length), w.ownsRow B 201 4 us[i] l[i].ts.length (l[i].ts.flatMap cellsT)
theorem OwnAts.nil : OwnAts w B (.slice none 0 0) [] := ⟨[], rfl, World.ownsRow_nil _ _ _ _, fun i hi => absurd hi (by simp)⟩
theorem OwnAts.below {l : List Atm} (h : OwnAts w B u l) (hb : Below w.heap.size w w') : OwnAts w' B u l :=
  let ⟨us, h0, h1, h2⟩ := h; ⟨us, h0, own_belowS h1 hb, fun i hi hi' => own_belowS (h2 i hi hi') hb⟩
theorem OwnAts.mono {B' : Nat} {l : List Atm} (h : OwnAts w B' u l) (hB : B ≤ B') : OwnAts w B u l :=
  let ⟨us, h0, h1, h2⟩ := h; ⟨us, h0, ren_mono h1 hB, fun i hi hi' => ren_mono (h2 i hi hi') hB⟩
theorem OwnAts.far {t : Nat} {l : List Atm} (h : OwnAts w B u l) (hg : w.grownBy w' (some t)) (ht : t < B) : OwnAts w' B u l :=
  let ⟨us, h0, h1, h2⟩ := h; ⟨us, h0, ren_far h1 hg ht, fun i hi hi' => ren_far (h2 i hi hi') hg ht⟩
theorem OwnAts.kept {l : List Atm} (h : OwnAts w B u l) {B2 e2 z2 n2 : Nat} {v2 : Value} {x2 : List Value} (h2 : w.ownsRow B2 e2 z2 v2 n2 x2) (he : e2 ≠ 188 ∧ e2 ≠ 201) (hg : w.grownBy w' v2.ownBlock) : OwnAts w' B u l :=
  let ⟨us, h0, h1, h3⟩ := h; ⟨us, h0, h1.kept hg (ren_apart h1 h2 (fun e => he.1 e.symm)), fun i hi hi' => (h3 i hi hi').kept hg (ren_apart (h3 i hi hi') h2 (fun e => he.2 e.symm))⟩
theorem atC_push {l : List Atm} {us : List Value} (h : us.length = l.length) (a : Atm) (v : Value) : atC (l ++ [a]) (us ++ [v]) = atC l us ++ [.bool a.neg, .string ⟨a.rel.toArray⟩, v] := by
  unfold atC
  rw [List.zip_append h.symm, List.flatMap_append]; rfl
theorem OwnAts.push {l : List Atm} {us : List Value} {a : Atm} {ut v8 : Value} (h0 : us.length = l.length) (h1 : w.ownsRow B 188 3 u l.length (atC l us)) (h2 : ∀ i (_ : i < us.length) (_ : i < l.length), w.ownsRow B 201 4 us[i] l[i].ts.length (l[i].ts.flatMap cellsT))
    (ht : w.ownsRow B 201 4 ut a.ts.length (a.ts.flatMap cellsT)) (hg : w.grownBy w' u.ownBlock) {n : Nat} (hn : l.length + 1 = n) (h8 : w'.ownsRow B 188 3 v8 n (atC l us ++ [.bool a.neg, .string ⟨a.rel.toArray⟩, ut])) : OwnAts w' B v8 (l ++ [a]) := by
  subst hn
  refine ⟨us ++ [ut], by simp [h0], by rw [atC_push h0, List.length_append]; exact h8, fun i hi hi' => ?_⟩
  by_cases hh : i < us.length
  · rw [List.getElem_append_left hh]
    have e : (l ++ [a])[i] = l[i]'(by omega) := List.getElem_append_left (by omega)
    rw [e]
    exact (h2 i hh (by omega)).kept hg (ren_apart (h2 i hh (by omega)) h1 (by decide))
  · have : i = us.length := by simp at hi; omega
    subst this
    simp only [List.getElem_concat_length]
    have e : (l ++ [a])[us.length]'hi' = a := by simp [h0]
    rw [e]
    exact ht.kept hg (ren_apart ht h1 (by decide))
theorem ren_atms {l : List Atm} (h : OwnAts w B u l) (hb : ∀ a ∈ l, a.ts.length ≤ 9223372036854775807) : ∃ A c, u = .slice A l.length c ∧ AtmsAt w A l ∧ l.length ≤ c := by
  obtain ⟨us, h0, h1, h2⟩ := h
  have hz : (l.zip us).length = l.length := by simp [h0]
  rw [← hz] at h1
  obtain ⟨A, c, e1, h3, h4⟩ := ren_gen (f := fun p : Atm × Value => [.bool p.1.neg, .string ⟨p.1.rel.toArray⟩, p.2]) (k := 3) (fun _ => rfl) h1
  rw [hz] at e1 h3
  refine ⟨A, c, e1, fun hp => ?_, by omega⟩
  obtain ⟨b, o, e, hc⟩ := h4 (by omega)
  refine ⟨b, o, e, fun i hi => ?_⟩
  obtain ⟨T, ct, eu, ht, hlt⟩ := ren_trms (h2 i (by omega) hi)
  have hi2 : i < (l.zip us).length := by omega
  refine ⟨T, ct, ?_, ?_, ?_, ht, hlt, hb _ (List.getElem_mem hi)⟩
  · have := hc i hi2 0 _ rfl
    simpa using this
  · have := hc i hi2 1 _ rfl
    simpa using this
  · have := hc i hi2 2 _ rfl
    rw [List.getElem_zip, eu] at this
    exact this
/-- Rules. -/
def rlC (us vs : List Value) : List Value := (us.zip vs).flatMap fun p => [p.1, p.2]
def OwnRls (w : World) (B : Nat) (u : Value) (l : List Rul) : Prop := ∃ us vs : List Value, us.length = l.length ∧ vs.length = l.length ∧ w.ownsRow B 142 2 u l.length (rlC us vs) ∧ ∀ i (_ : i < us.length) (_ : i < vs.length) (_ : i < l.length), OwnAts w B us[i] l[i].atoms ∧ w.ownsRow B 192 5 vs[i] l[i].conds.length (l[i].conds.flatMap cellsC)
theorem OwnRls.nil : OwnRls w B (.slice none 0 0) [] := ⟨[], [], rfl, rfl, World.ownsRow_nil _ _ _ _, fun i hi => absurd hi (by simp)⟩
theorem OwnRls.below {l : List Rul} (h : OwnRls w B u l) (hb : Below w.heap.size w w') : OwnRls w' B u l :=
  let ⟨us, vs, h0, h1, h2, h3⟩ := h; ⟨us, vs, h0, h1, own_belowS h2 hb, fun i a b c => ⟨(h3 i a b c).1.below hb, own_belowS (h3 i a b c).2 hb⟩⟩
theorem OwnRls.far {t : Nat} {l : List Rul} (h : OwnRls w B u l) (hg : w.grownBy w' (some t)) (ht : t < B) : OwnRls w' B u l :=
  let ⟨us, vs, h0, h1, h2, h3⟩ := h; ⟨us, vs, h0, h1, ren_far h2 hg ht, fun i a b c => ⟨(h3 i a b c).1.far hg ht, ren_far (h3 i a b c).2 hg ht⟩⟩
theorem OwnRls.kept {l : List Rul} (h : OwnRls w B u l) {B2 e2 z2 n2 : Nat} {v2 : Value} {x2 : List Value} (h2 : w.ownsRow B2 e2 z2 v2 n2 x2) (he : e2 ≠ 188 ∧ e2 ≠ 201 ∧ e2 ≠ 192 ∧ e2 ≠ 142) (hg : w.grownBy w' v2.ownBlock) : OwnRls w' B u l :=
  let ⟨us, vs, h0, h1, h3, h4⟩ := h; ⟨us, vs, h0, h1, h3.kept hg (ren_apart h3 h2 (fun e => he.2.2.2 e.symm)), fun i a b c => ⟨(h4 i a b c).1.kept h2 ⟨he.1, he.2.1⟩ hg, (h4 i a b c).2.kept hg (ren_apart (h4 i a b c).2 h2 (fun e => he.2.2.1 e.symm))⟩⟩
theorem rlC_push {us vs : List Value} (h : us.length = vs.length) (v d : Value) : rlC (us ++ [v]) (vs ++ [d]) = rlC us vs ++ [v, d] := by
  unfold rlC
  rw [List.zip_append h, List.flatMap_append]; rfl
theorem OwnRls.push {l : List Rul} {us vs : List Value} {r : Rul} {ua uc v8 : Value} (h0 : us.length = l.length) (h1 : vs.length = l.length) (h2 : w.ownsRow B 142 2 u l.length (rlC us vs))
    (h3 : ∀ i (_ : i < us.length) (_ : i < vs.length) (_ : i < l.length), OwnAts w B us[i] l[i].atoms ∧ w.ownsRow B 192 5 vs[i] l[i].conds.length (l[i].conds.flatMap cellsC))
    (ha : OwnAts w B ua r.atoms) (hc : w.ownsRow B 192 5 uc r.conds.length (r.conds.flatMap cellsC)) (hg : w.grownBy w' u.ownBlock) {n : Nat} (hn : l.length + 1 = n) (h8 : w'.ownsRow B 142 2 v8 n (rlC us vs ++ [ua, uc])) : OwnRls w' B v8 (l ++ [r]) := by
  subst hn
  refine ⟨us ++ [ua], vs ++ [uc], by simp [h0], by simp [h1], by rw [rlC_push (h0.trans h1.symm), List.length_append]; exact h8, fun i hi hi2 hi' => ?_⟩
  by_cases hh : i < us.length
  · rw [List.getElem_append_left hh, List.getElem_append_left (show i < vs.length by omega)]
    have e : (l ++ [r])[i] = l[i]'(by omega) := List.getElem_append_left (by omega)
    rw [e]
    obtain ⟨a, b⟩ := h3 i hh (by omega) (by omega)
    exact ⟨a.kept h2 (by decide) hg, b.kept hg (ren_apart b h2 (by decide))⟩
  · have : i = us.length := by simp at hi; omega
    subst this
    have e : (l ++ [r])[us.length]'hi' = r := by simp [h0]
    have e2 : (vs ++ [uc])[us.length]'hi2 = uc := by simp [h0, h1]
    rw [e, e2]
    simp only [List.getElem_concat_length]
    exact ⟨ha.kept h2 (by decide) hg, hc.kept hg (ren_apart hc h2 (by decide))⟩
/-- Few enough to be copied. -/
structure Rul.some (r : Rul) : Prop where
  a : r.atoms.length ≤ 100000
  c : r.conds.length ≤ 100000
  t : ∀ a ∈ r.atoms, a.ts.length ≤ 100000
theorem ren_ruls {l : List Rul} (h : OwnRls w B u l) (hb : ∀ r ∈ l, r.some) : ∃ A c, u = .slice A l.length c ∧ RulsAt w A l ∧ l.length ≤ c := by
  obtain ⟨us, vs, h0, h1, h2, h3⟩ := h
  have hz : (us.zip vs).length = l.length := by simp [h0, h1]
  rw [← hz] at h2
  obtain ⟨A, c, e1, h4, h5⟩ := ren_gen (f := fun p : Value × Value => [p.1, p.2]) (k := 2) (fun _ => rfl) h2
  rw [hz] at e1 h4
  refine ⟨A, c, e1, fun hp => ?_, by omega⟩
  obtain ⟨b, o, e, hc⟩ := h5 (by omega)
  refine ⟨b, o, e, fun i hi => ?_⟩
  obtain ⟨g1, g2⟩ := h3 i (by omega) (by omega) hi
  have hf := hb _ (List.getElem_mem hi)
  obtain ⟨T, ct, eu, ht, hlt⟩ := ren_atms g1 (fun a ha => by have := hf.t a ha; omega)
  obtain ⟨T2, ct2, eu2, ht2, hlt2⟩ := ren_cnds g2
  have hi2 : i < (us.zip vs).length := by omega
  refine ⟨T, ct, T2, ct2, ?_, ?_, ht, ht2, hlt, hlt2, by have := hf.a; omega, by have := hf.c; omega⟩
  · have := hc i hi2 0 _ rfl
    rw [List.getElem_zip, eu] at this
    exact this
  · have := hc i hi2 1 _ rfl
    rw [List.getElem_zip, eu2] at this
    exact this
/-- The cells of a box of the call's own behind one for the query. -/
theorem rpl_cells {v0 v1 v2 v3 v4 : Value} {t : TypeId} {o : Obj} (h : Below (w.heap.size + 1 + 1) ((w.alloc (.cells #[v0, v1, v2, v3, v4] t)).alloc o) w') :
    w'.cell? ⟨w.heap.size, 0, none⟩ = some v0 ∧ w'.cell? ⟨w.heap.size, 1, none⟩ = some v1 ∧ w'.cell? ⟨w.heap.size, 2, none⟩ = some v2 ∧ w'.cell? ⟨w.heap.size, 3, none⟩ = some v3 ∧ w'.cell? ⟨w.heap.size, 4, none⟩ = some v4 ∧
    w'.heap[w.heap.size + 1]? = some o ∧ w.heap.size + 1 < w'.heap.size ∧ Below w.heap.size w w' := by
  have hA : Below (w.heap.size + 1) (w.alloc (.cells #[v0, v1, v2, v3, v4] t)) w' := ((Below.refl _ _).alloc (by simp) _).trans (h.mono (by omega))
  obtain ⟨a, b, c, d, e, _, g⟩ := qry_cells hA
  refine ⟨a, b, c, d, e, ?_, ?_, g⟩
  · rw [h.block _ (by omega)]
    have := heap_alloc_new (w.alloc (.cells #[v0, v1, v2, v3, v4] t)) o
    simpa using this
  · have := h.size
    simp at this
    omega
/-- Behind the first two blocks of the walk. -/
def QIn (w : World) (v0 v1 v2 v3 v4 : Value) (t : TypeId) (o : Obj) (w' : World) : Prop := Below (w.heap.size + 1 + 1) ((w.alloc (.cells #[v0, v1, v2, v3, v4] t)).alloc o) w'
theorem QIn.cells {v0 v1 v2 v3 v4 : Value} {t : TypeId} {o : Obj} (h : QIn w v0 v1 v2 v3 v4 t o w') :
    w'.cell? ⟨w.heap.size, 0, none⟩ = some v0 ∧ w'.cell? ⟨w.heap.size, 1, none⟩ = some v1 ∧ w'.cell? ⟨w.heap.size, 2, none⟩ = some v2 ∧ w'.cell? ⟨w.heap.size, 3, none⟩ = some v3 ∧ w'.cell? ⟨w.heap.size, 4, none⟩ = some v4 ∧
    w'.heap[w.heap.size + 1]? = some o ∧ w.heap.size + 1 < w'.heap.size ∧ Below w.heap.size w w' := rpl_cells h
theorem QIn.on {w2 : World} {v0 v1 v2 v3 v4 : Value} {t : TypeId} {o : Obj} {B : Nat} (h : QIn w v0 v1 v2 v3 v4 t o w') (hb : Below B w' w2) (hB : w.heap.size + 1 + 1 ≤ B) : QIn w v0 v1 v2 v3 v4 t o w2 := Below.trans h (hb.mono hB)
theorem QIn.size {v0 v1 v2 v3 v4 : Value} {t : TypeId} {o : Obj} (h : QIn w v0 v1 v2 v3 v4 t o w') : w.heap.size + 1 + 1 ≤ w'.heap.size := by
  have := Below.size h
  simpa using this
theorem QIn.refl {v0 v1 v2 v3 v4 : Value} {t : TypeId} {o : Obj} : QIn w v0 v1 v2 v3 v4 t o ((w.alloc (.cells #[v0, v1, v2, v3, v4] t)).alloc o) := Below.refl _ _
end
section
variable {w w' : World} {B : Nat} {u : Value}
/-- The blocks from B on lie as they did. -/
def Over (B : Nat) (w w' : World) : Prop := ∀ b, B ≤ b → b < w.heap.size → w'.heap[b]? = w.heap[b]?
theorem ren_over {e k n : Nat} {v : Value} {xs : List Value} (h : w.ownsRow B e k v n xs) (ho : Over B w w') : w'.ownsRow B e k v n xs := by
  obtain ⟨hl, h0 | ⟨g, cap, cur, hv, hg, hh, r⟩⟩ := h
  · exact ⟨hl, .inl h0⟩
  · exact ⟨hl, .inr ⟨g, cap, cur, hv, hg, (ho g hg (lt_of_block hh)).trans hh, r⟩⟩
theorem OwnAts.over {l : List Atm} (h : OwnAts w B u l) (ho : Over B w w') : OwnAts w' B u l :=
  let ⟨us, h0, h1, h2⟩ := h; ⟨us, h0, ren_over h1 ho, fun i hi hi' => ren_over (h2 i hi hi') ho⟩
theorem OwnRls.over {l : List Rul} (h : OwnRls w B u l) (ho : Over B w w') : OwnRls w' B u l :=
  let ⟨us, vs, h0, h1, h2, h3⟩ := h; ⟨us, vs, h0, h1, ren_over h2 ho, fun i a b c => ⟨(h3 i a b c).1.over ho, ren_over (h3 i a b c).2 ho⟩⟩
theorem Over.mono {B' : Nat} (h : Over B w w') (hB : B ≤ B') : Over B' w w' := fun b hb hl => h b (by omega) hl
end
/-- A query that is few. -/
structure Qry.some (q : Qry) : Prop where
  h : q.head.length ≤ 100000
  r : q.rules.length ≤ 100000
  o : q.order.length ≤ 100000
  s : ∀ r ∈ q.rules, r.some
theorem some_map {f : Str → Str} {r : Rul} (h : r.some) : (mapR f r).some := ⟨by simp only [mapR, List.length_map]; exact h.a, by simp only [mapR, List.length_map]; exact h.c, fun a ha => by
  obtain ⟨b, hb, rfl⟩ := List.mem_map.1 ha
  simp only [mapA, List.length_map]; exact h.t b hb⟩
/-- What replace returns: a query in memory. -/
def RetQ (w : World) (q : Qry) (e : Ending) (w' : World) : Prop := ∃ A R O ch cr co, e = .returned (qryV q A R O ch cr co) ∧ (∀ w2, Over w.heap.size w' w2 → QryIn w2 q A R O ch cr co) ∧ Below w.heap.size w w'
end

/-! ### PsW -/
section

/-- Tokens of a bounded text. -/
structure TkOk (tk : Nat → Tok) : Prop where
  t : ∀ i, (tk i).t.length ≤ 9223372036854775807
  v : ∀ i, (tk i).v.wf
theorem V0_wf : V.wf V0 := ⟨⟨by decide, by decide⟩, ⟨by decide, by decide⟩, by decide⟩
section
variable {tk : Nat → Tok}
theorem term_wf (h : TkOk tk) {i : Nat} {t : Trm} (ht : termT (tk i) = some t) : t.wf := by
  unfold termT at ht
  split at ht
  · injection ht with ht
    subst ht
    exact ⟨h.t i, V0_wf⟩
  · cases hc : constT (tk i) with
    | none => rw [hc] at ht; cases ht
    | some v =>
      rw [hc] at ht
      injection ht with ht
      subst ht
      unfold constT at hc
      split at hc
      · injection hc with hc
        subst hc
        exact ⟨by simp, h.v i⟩
      · cases hc
theorem const_wf (h : TkOk tk) {i : Nat} {v : V} (hc : constT (tk i) = some v) : v.wf := by
  unfold constT at hc
  split at hc
  · injection hc with hc
    subst hc
    exact h.v i
  · cases hc
theorem termsS_ok (h : TkOk tk) : ∀ {f i : Nat} {acc ts : List Trm} {nx : Nat}, termsS tk f i acc = .ok ts nx → (∀ t ∈ acc, t.wf) → (∀ t ∈ ts, t.wf) ∧ ts.length ≤ acc.length + f
  | 0, i, acc, ts, nx, e, _ => by cases e
  | f + 1, i, acc, ts, nx, e, ha => by
    unfold termsS at e
    cases ht : termT (tk i) with
    | none => rw [ht] at e; cases e
    | some t =>
      rw [ht] at e
      have hw := term_wf h ht
      have ha2 : ∀ x ∈ acc ++ [t], x.wf := fun x hx => by
        rcases List.mem_append.1 hx with hx | hx
        · exact ha x hx
        · rw [List.mem_singleton] at hx; subst hx; exact hw
      simp only at e
      split at e
      · injection e with e1 _
        subst e1
        exact ⟨ha2, by simp⟩
      · split at e
        · obtain ⟨h1, h2⟩ := termsS_ok h e ha2
          exact ⟨h1, by simp at h2; omega⟩
        · cases e
/-- A rule that is well formed and has at most so many atoms, conditions, terms. -/
structure RulOkN (n m : Nat) (r : Rul) : Prop where
  wf : r.wf
  a : r.atoms.length ≤ m
  c : r.conds.length ≤ m
  t : ∀ a ∈ r.atoms, a.ts.length ≤ n
theorem RulOkN.nil (n : Nat) : RulOkN n 0 ⟨[], []⟩ := ⟨⟨fun a ha => (by cases ha), fun c hc => (by cases hc)⟩, by simp, by simp, fun a ha => (by cases ha)⟩
theorem itemS_ok (h : TkOk tk) {n m i nx : Nat} {r r' : Rul} (e : itemS tk n i r = .ok r' nx) (hr : RulOkN n m r) : RulOkN n (m + 1) r' := by
  unfold itemS at e
  simp only at e
  generalize (if isT (tk i) sNot = true then i + 1 else i) = j at e
  split at e
  · cases e
  · split at e
    · cases hp : parenS tk n (j + 2) with
      | bad x => rw [hp] at e; cases e
      | ok ts nx2 =>
        rw [hp] at e
        injection e with e1 _
        subst e1
        have hts : (∀ t ∈ ts, t.wf) ∧ ts.length ≤ n := by
          unfold parenS at hp
          split at hp
          · injection hp with hp _
            subst hp
            exact ⟨fun t ht => (by cases ht), by simp⟩
          · have := termsS_ok h hp (fun t ht => (by cases ht))
            simpa using this
        refine ⟨⟨fun a ha => ?_, hr.wf.conds⟩, by simp; exact hr.a, by have := hr.c; show r.conds.length ≤ m + 1; omega, fun a ha => ?_⟩
        · rcases List.mem_append.1 ha with ha | ha
          · exact hr.wf.atoms a ha
          · rw [List.mem_singleton] at ha; subst ha; exact ⟨h.t j, hts.1⟩
        · rcases List.mem_append.1 ha with ha | ha
          · exact hr.t a ha
          · rw [List.mem_singleton] at ha; subst ha; exact hts.2
    · split at e
      · cases e
      · cases ho : opT (tk (j + 1)) with
        | none => rw [ho] at e; cases e
        | some o =>
          rw [ho] at e
          simp only at e
          cases hc : constT (tk (j + 2)) with
          | none => rw [hc] at e; cases e
          | some v =>
            rw [hc] at e
            injection e with e1 _
            subst e1
            have hol : o < 6 := by
              unfold opT at ho
              obtain ⟨h1, _⟩ := List.findIdx?_eq_some_iff_getElem.1 ho
              exact h1
            refine ⟨⟨hr.wf.atoms, fun c hcm => ?_⟩, by have := hr.a; show r.atoms.length ≤ m + 1; omega, by simp; exact hr.c, hr.t⟩
            rcases List.mem_append.1 hcm with hcm | hcm
            · exact hr.wf.conds c hcm
            · rw [List.mem_singleton] at hcm; subst hcm
              exact ⟨h.t j, ⟨by show -9223372036854775808 ≤ (o : Int); omega, by show (o : Int) ≤ 9223372036854775807; omega⟩, const_wf h hc⟩
theorem RulOkN.mono {n m m' : Nat} {r : Rul} (h : RulOkN n m r) (hm : m ≤ m') : RulOkN n m' r := ⟨h.wf, Nat.le_trans h.a hm, Nat.le_trans h.c hm, h.t⟩
theorem ruleS_ok (h : TkOk tk) {n : Nat} : ∀ {f m i nx : Nat} {r r' : Rul}, ruleG tk n f i r = .ok r' nx → RulOkN n m r → RulOkN n (m + f) r'
  | 0, m, i, nx, r, r', e, _ => by cases e
  | f + 1, m, i, nx, r, r', e, hr => by
    unfold ruleG at e
    cases hi : itemS tk n i r with
    | bad x => rw [hi] at e; cases e
    | ok r2 nx2 =>
      rw [hi] at e
      simp only at e
      have h2 := itemS_ok h hi hr
      split at e
      · exact (ruleS_ok h e h2).mono (by omega)
      · injection e with e1 _
        subst e1
        exact h2.mono (by omega)
theorem namesS_ok (h : TkOk tk) : ∀ {f i nx : Nat} {acc l : List Str}, namesS tk f i acc = .ok l nx → (∀ s ∈ acc, s.length ≤ 9223372036854775807) → (∀ s ∈ l, s.length ≤ 9223372036854775807) ∧ l.length ≤ acc.length + f
  | 0, i, nx, acc, l, e, _ => by cases e
  | f + 1, i, nx, acc, l, e, ha => by
    unfold namesS at e
    have ha2 : ∀ x ∈ acc ++ [(tk i).t], x.length ≤ 9223372036854775807 := fun x hx => by
      rcases List.mem_append.1 hx with hx | hx
      · exact ha x hx
      · rw [List.mem_singleton] at hx; subst hx; exact h.t i
    split at e
    · cases e
    · split at e
      · obtain ⟨h1, h2⟩ := namesS_ok h e ha2
        exact ⟨h1, by simp at h2; omega⟩
      · injection e with e1 _
        subst e1
        exact ⟨ha2, by simp⟩
theorem keysS_ok (h : TkOk tk) : ∀ {f i nx : Nat} {acc l : List Ky}, keysS tk f i acc = .ok l nx → (∀ s ∈ acc, s.v.length ≤ 9223372036854775807) → (∀ s ∈ l, s.v.length ≤ 9223372036854775807) ∧ l.length ≤ acc.length + f
  | 0, i, nx, acc, l, e, _ => by cases e
  | f + 1, i, nx, acc, l, e, ha => by
    unfold keysS at e
    split at e
    · cases e
    · simp only at e
      generalize isT (tk (i + 1)) sDesc = d at e
      generalize (if d = true then i + 2 else i + 1) = j at e
      have ha2 : ∀ x ∈ acc ++ [(⟨(tk i).t, d⟩ : Ky)], x.v.length ≤ 9223372036854775807 := fun x hx => by
        rcases List.mem_append.1 hx with hx | hx
        · exact ha x hx
        · rw [List.mem_singleton] at hx; subst hx; exact h.t i
      split at e
      · obtain ⟨h1, h2⟩ := keysS_ok h e ha2
        exact ⟨h1, by simp at h2; omega⟩
      · injection e with e1 _
        subst e1
        exact ⟨ha2, by simp⟩
theorem rulesS_ok (h : TkOk tk) {n : Nat} : ∀ {f i nx : Nat} {acc l : List Rul}, rulesS tk n f i acc = .ok l nx → (∀ r ∈ acc, RulOkN n n r) → (∀ r ∈ l, RulOkN n n r) ∧ l.length ≤ acc.length + f
  | 0, i, nx, acc, l, e, _ => by cases e
  | f + 1, i, nx, acc, l, e, ha => by
    unfold rulesS at e
    cases hi : ruleG tk n n i ⟨[], []⟩ with
    | bad x => rw [hi] at e; cases e
    | ok r2 nx2 =>
      rw [hi] at e
      simp only at e
      have h2 := (ruleS_ok h hi (RulOkN.nil n)).mono (m' := n) (by omega)
      have ha2 : ∀ x ∈ acc ++ [r2], RulOkN n n x := fun x hx => by
        rcases List.mem_append.1 hx with hx | hx
        · exact ha x hx
        · rw [List.mem_singleton] at hx; subst hx; exact h2
      split at e
      · obtain ⟨h1, h3⟩ := rulesS_ok h e ha2
        exact ⟨h1, by simp at h3; omega⟩
      · injection e with e1 _
        subst e1
        exact ⟨ha2, by simp⟩
end
end

/-! ### PgS -/
section

theorem nextL_val {r : List UInt8} {a : Int} {t : Tok} (h : nextL r a = (t, 0)) (h2 : t.k ≠ 2) (h3 : t.k ≠ 3) : t.v = V0 := by
  have lit : ∀ {k : Int} {x : List UInt8}, (k = 2 ∨ k = 3) → litTok k x a = (t, 0) → False := fun {k x} hk h => by
    obtain ⟨_, e⟩ := litTok_ok h
    have : t.k = k := by rw [e]
    rcases hk with hk | hk
    · exact h2 (this.trans hk)
    · exact h3 (this.trans hk)
  unfold nextL at h
  split at h
  · unfold wordTok at h
    split at h
    · injection h with h1 _; rw [← h1]
    · split at h
      · injection h with _ h2; exact absurd h2 (by decide)
      · injection h with h1 _; rw [← h1]
  · split at h
    · exact (lit (.inl rfl) h).elim
    · split at h
      · split at h
        · injection h with _ h2; exact absurd h2 (by decide)
        · exact (lit (.inr rfl) h).elim
      · obtain ⟨y, _, e⟩ := symTok_ok h
        rw [e]
theorem Sc.vals {l : List UInt8} {a : Int} {ts : List Tok} (h : Sc l a ts) : ∀ t ∈ ts, t.v.wf := by
  induction h with
  | nil a => intro t ht; rw [List.mem_singleton] at ht; subst ht; exact V0_wf
  | white h hs ih => exact ih
  | tok hr hw h hs ih =>
    intro t ht
    rcases List.mem_cons.1 ht with rfl | ht
    · by_cases hk : t.k = 2 ∨ t.k = 3
      · have h1 := nextL_lit h hk
        obtain ⟨h2, _, h3, h4⟩ := text_parse h1
        refine ⟨?_, h3, by omega⟩
        unfold V.valid at h2
        have : t.v.k = 1 ∨ t.v.k = 2 := by
          split at h2
          · exact .inl (by assumption)
          · split at h2
            · exact .inr (by assumption)
            · cases h2
        unfold I64
        omega
      · rw [nextL_val h (fun e => hk (.inl e)) (fun e => hk (.inr e))]; exact V0_wf
    · exact ih t ht
theorem Sc.tkOk {l : List UInt8} {a : Int} {ts : List Tok} (h : Sc l a ts) (hl : l.length ≤ 100000) : TkOk (tkL ts) := by
  refine ⟨fun i => ?_, fun i => h.vals _ (tkL_mem h.ended i)⟩
  have hp := h.ended.pos
  have hm : min i (ts.length - 1) < ts.length := by omega
  have := tok_le h hm
  unfold tkL
  rw [List.getD_eq_getElem?_getD, List.getElem?_eq_getElem hm]
  show ts[min i (ts.length - 1)].t.length ≤ _
  omega
section
variable {tk : Nat → Tok}
theorem endS_eq {i nx : Nat} {q q' : Qry} (e : endS tk i q = .ok q' nx) : q' = q := by
  unfold endS at e
  split at e
  · split at e
    · injection e with e _; exact e.symm
    · cases e
  · cases e
theorem semiS_ok (h : TkOk tk) {i nx : Nat} {hs : List Str} {q : Qry} (e : semiS tk i ⟨hs, 0, [], [], []⟩ = .ok q nx) : q.head = hs ∧ I64 q.agg ∧ q.aggVar.length ≤ 9223372036854775807 ∧ q.rules = [] ∧ q.order = [] := by
  unfold semiS at e
  split at e
  · cases ha : aggG tk (i + 1) ⟨hs, 0, [], [], []⟩ with
    | bad b => rw [ha] at e; cases e
    | ok q2 n2 =>
      rw [ha] at e
      rw [endS_eq e]
      unfold aggG at ha
      split at ha
      · injection ha with ha _; rw [← ha]; exact ⟨rfl, (show I64 1 from ⟨by decide, by decide⟩), by simp, rfl, rfl⟩
      · split at ha
        · cases ha
        · rename_i x hx
          split at ha
          · cases ha
          · injection ha with ha _
            rw [← ha]
            refine ⟨rfl, ?_, h.t _, rfl, rfl⟩
            have : x = 2 ∨ x = 3 ∨ x = 4 := by
              unfold aggT at hx
              split at hx
              · injection hx with hx; omega
              · split at hx
                · injection hx with hx; omega
                · split at hx
                  · injection hx with hx; omega
                  · cases hx
            show I64 x
            unfold I64
            omega
  · rw [endS_eq e]; exact ⟨rfl, (show I64 0 from ⟨by decide, by decide⟩), by simp, rfl, rfl⟩
theorem headG_ok (h : TkOk tk) {n nx : Nat} {q : Qry} (e : headG tk n = .ok q nx) : (∀ s ∈ q.head, s.length ≤ 9223372036854775807) ∧ q.head.length ≤ n ∧ I64 q.agg ∧ q.aggVar.length ≤ 9223372036854775807 ∧ q.rules = [] ∧ q.order = [] := by
  unfold headG at e
  split at e
  · cases e
  · split at e
    · cases e
    · split at e
      · cases hn : namesS tk n 2 [] with
        | bad b => rw [hn] at e; cases e
        | ok hs n2 =>
          rw [hn] at e
          obtain ⟨h1, h2⟩ := namesS_ok h hn (fun s hs => (by cases hs))
          obtain ⟨h3, h4⟩ := semiS_ok h e
          rw [h3]
          exact ⟨h1, by simpa using h2, h4⟩
      · obtain ⟨h3, h4⟩ := semiS_ok h e
        rw [h3]
        exact ⟨fun s hs => (by cases hs), by simp, h4⟩
/-- A query that the grammar makes. -/
structure QryOkN (n : Nat) (q : Qry) : Prop where
  wf : q.wf
  h : q.head.length ≤ n
  r : q.rules.length ≤ n
  o : q.order.length ≤ n
  s : ∀ r ∈ q.rules, RulOkN n n r
theorem queryS_ok (h : TkOk tk) {n nx : Nat} {q : Qry} (e : queryS tk n = .ok q nx) : QryOkN n q := by
  unfold queryS at e
  cases hh : headG tk n with
  | bad b => rw [hh] at e; cases e
  | ok q0 n0 =>
    rw [hh] at e
    simp only at e
    obtain ⟨h1, h2, h3, h4, h5, h6⟩ := headG_ok h hh
    cases hr : rulesS tk n n n0 [] with
    | bad b => rw [hr] at e; cases e
    | ok rs n1 =>
      rw [hr] at e
      simp only at e
      obtain ⟨g1, g2⟩ := rulesS_ok h hr (fun r hr => (by cases hr))
      have g2' : rs.length ≤ n := by simpa using g2
      split at e
      · cases hk : keysS tk n (n1 + 1) [] with
        | bad b => rw [hk] at e; cases e
        | ok ks n2 =>
          rw [hk] at e
          injection e with e _
          subst e
          obtain ⟨k1, k2⟩ := keysS_ok h hk (fun r hr => (by cases hr))
          exact ⟨⟨h1, h3, h4, fun r hr => (g1 r hr).wf, k1⟩, h2, g2', by simpa using k2, g1⟩
      · injection e with e _
        subst e
        exact ⟨⟨h1, h3, h4, fun r hr => (g1 r hr).wf, fun s hs => by simp only [h6] at hs; cases hs⟩, h2, g2', by simp [h6], g1⟩
end
section
variable {L : List Tok} (hE : Ended L)
include hE
theorem termsS_bad : ∀ {f i b : Nat} {acc : List Trm}, i < L.length → termsS (tkL L) f i acc = .bad b → b < L.length
  | 0, i, b, acc, hi, e => by injection e with e; omega
  | f + 1, i, b, acc, hi, e => by
    unfold termsS at e
    cases ht : termT (tkL L i) with
    | none => rw [ht] at e; injection e with e; omega
    | some t =>
      rw [ht] at e
      have h1 := hE.term ht
      simp only at e
      split at e
      · cases e
      · split at e
        · rename_i hc
          have := hE.isT hc
          exact termsS_bad (by omega) e
        · injection e with e; omega
theorem itemS_bad {n i b : Nat} {r : Rul} (hi : i < L.length) (e : itemS (tkL L) n i r = .bad b) : b < L.length := by
  unfold itemS at e
  simp only at e
  obtain ⟨j, hj⟩ : ∃ j, (if isT (tkL L i) sNot = true then i + 1 else i) = j := ⟨_, rfl⟩
  rw [hj] at e
  have hjl : j < L.length := by
    rw [← hj]
    split
    · rename_i h; have := hE.isT h; omega
    · exact hi
  split at e
  · injection e with e; omega
  · rename_i hk
    have h1 := hE.one (i := j) (by simpa using hk)
    split at e
    · rename_i ho
      have h2 := hE.isT ho
      cases hp : parenS (tkL L) n (j + 2) with
      | ok ts nx => rw [hp] at e; cases e
      | bad x =>
        rw [hp] at e
        injection e with e
        subst e
        unfold parenS at hp
        split at hp
        · cases hp
        · exact termsS_bad hE (by omega) hp
    · split at e
      · injection e with e; omega
      · cases ho : opT (tkL L (j + 1)) with
        | none => rw [ho] at e; injection e with e; omega
        | some o =>
          rw [ho] at e
          have h2 := hE.lt (opT_kind ho)
          simp only at e
          cases hc : constT (tkL L (j + 2)) with
          | none => rw [hc] at e; injection e with e; omega
          | some v => rw [hc] at e; cases e
theorem ruleG_bad {n : Nat} : ∀ {f i b : Nat} {r : Rul}, i < L.length → ruleG (tkL L) n f i r = .bad b → b < L.length
  | 0, i, b, r, hi, e => by injection e with e; omega
  | f + 1, i, b, r, hi, e => by
    unfold ruleG at e
    cases hr : itemS (tkL L) n i r with
    | bad x => rw [hr] at e; injection e with e; subst e; exact itemS_bad hE hi hr
    | ok r2 n2 =>
      rw [hr] at e
      simp only at e
      split at e
      · rename_i hc
        have := hE.isT hc
        exact ruleG_bad (by omega) e
      · cases e
theorem rulesS_bad {n : Nat} : ∀ {f i b : Nat} {acc : List Rul}, i < L.length → rulesS (tkL L) n f i acc = .bad b → b < L.length
  | 0, i, b, r, hi, e => by injection e with e; omega
  | f + 1, i, b, r, hi, e => by
    unfold rulesS at e
    cases hr : ruleG (tkL L) n n i ⟨[], []⟩ with
    | bad x => rw [hr] at e; injection e with e; subst e; exact ruleG_bad hE hi hr
    | ok r2 n2 =>
      rw [hr] at e
      simp only at e
      split at e
      · rename_i hc
        have := hE.isT hc
        exact rulesS_bad (by omega) e
      · cases e
theorem namesS_bad : ∀ {f i b : Nat} {acc : List Str}, i < L.length → namesS (tkL L) f i acc = .bad b → b < L.length
  | 0, i, b, r, hi, e => by injection e with e; omega
  | f + 1, i, b, r, hi, e => by
    unfold namesS at e
    split at e
    · injection e with e; omega
    · split at e
      · rename_i hc
        have := hE.isT hc
        exact namesS_bad (by omega) e
      · cases e
theorem keysS_bad : ∀ {f i b : Nat} {acc : List Ky}, i < L.length → keysS (tkL L) f i acc = .bad b → b < L.length
  | 0, i, b, r, hi, e => by injection e with e; omega
  | f + 1, i, b, r, hi, e => by
    unfold keysS at e
    split at e
    · injection e with e; omega
    · simp only at e
      generalize (if isT (tkL L (i + 1)) sDesc = true then i + 2 else i + 1) = j at e
      split at e
      · rename_i hc
        have := hE.isT hc
        exact keysS_bad (by omega) e
      · cases e
theorem endS_bad {i b : Nat} {q : Qry} (hi : i < L.length) (e : endS (tkL L) i q = .bad b) : b < L.length := by
  unfold endS at e
  split at e
  · rename_i h
    have := hE.isT h
    split at e
    · cases e
    · injection e with e; omega
  · injection e with e; omega
theorem semiS_bad {i b : Nat} {q : Qry} (hi : i < L.length) (e : semiS (tkL L) i q = .bad b) : b < L.length := by
  unfold semiS at e
  split at e
  · rename_i hs
    have h1 := hE.isT hs
    cases ha : aggG (tkL L) (i + 1) q with
    | bad x =>
      rw [ha] at e
      injection e with e
      subst e
      unfold aggG at ha
      split at ha
      · cases ha
      · split at ha
        · injection ha with ha; omega
        · rename_i y hy
          split at ha
          · injection ha with ha
            have : (tkL L (i + 1)).k ≠ 0 := by
              intro e0
              unfold aggT isT at hy
              rw [e0] at hy
              simp at hy
            have := hE.lt this
            omega
          · cases ha
    | ok q2 n2 =>
      rw [ha] at e
      exact endS_bad hE (aggS_nx hE ha).2 e
  · exact endS_bad hE hi e
theorem headG_bad {n b : Nat} (e : headG (tkL L) n = .bad b) : b < L.length := by
  have hp := hE.pos
  unfold headG at e
  split at e
  · injection e with e; omega
  · rename_i h0
    have hk : (tkL L 0).k = 1 := Classical.byContradiction fun h => h0 (.inl h)
    have h1 := hE.one hk
    split at e
    · injection e with e; omega
    · rename_i ho
      have h2 := hE.isT (i := 1) (s := sOpen) (by simpa using ho)
      split at e
      · cases hn : namesS (tkL L) n 2 [] with
        | bad x => rw [hn] at e; injection e with e; subst e; exact namesS_bad hE (by omega) hn
        | ok hs n2 => rw [hn] at e; exact semiS_bad hE (namesS_nx hE hn).2 e
      · exact semiS_bad hE (by omega) e
theorem queryS_bad {n b : Nat} (e : queryS (tkL L) n = .bad b) : b < L.length := by
  unfold queryS at e
  cases hh : headG (tkL L) n with
  | bad x => rw [hh] at e; injection e with e; subst e; exact headG_bad hE hh
  | ok q0 n0 =>
    rw [hh] at e
    simp only at e
    have h0 := (headS_nx hE hh).2
    cases hr : rulesS (tkL L) n n n0 [] with
    | bad x => rw [hr] at e; injection e with e; subst e; exact rulesS_bad hE h0 hr
    | ok rs n1 =>
      rw [hr] at e
      simp only at e
      split at e
      · rename_i ho
        have h2 := hE.isT ho
        cases hk : keysS (tkL L) n (n1 + 1) [] with
        | bad x => rw [hk] at e; injection e with e; subst e; exact keysS_bad hE h2 hk
        | ok ks n2 => rw [hk] at e; cases e
      · cases e
end
/-- What the program's Parse answers. -/
def parseP (x : List Tok × Int × Int) : Qry × Int × Int := if x.2.2 = 0 then (if (gramQ x.1).2.2 = 0 then (if checkQ (gramQ x.1).1 = 0 then ((gramQ x.1).1, 0, 0) else (Q0, 0, checkQ (gramQ x.1).1)) else gramQ x.1) else (Q0, x.2.1, x.2.2)
def rulQ (r : Rul) : Qry := ⟨[], 0, [], [r], []⟩
def parseR (x : List Tok × Int × Int) : Rul × Int × Int := if x.2.2 = 0 then (if (gramR x.1).2.2 = 0 then (if checkQ (rulQ (gramR x.1).1) = 0 then ((gramR x.1).1, 0, 0) else (R0, 0, checkQ (rulQ (gramR x.1).1))) else gramR x.1) else (R0, x.2.1, x.2.2)
end
end Go.Proofs.YtjhnopnppimnhaaGreatDoor
