/-
  TYPES IN MEMORY; the maps that Check keeps. For the walk of check.Check.
-/
import Derived.Test.YtgeapgbebbapmaaChk5
namespace Go.Proofs.Ytgeapgbebbapmaa
open Go.RowKit

/-- Names with their kinds; a list of such lists. -/
def vrC (l : Env) : List Value := l.flatMap fun p => [.string ⟨p.1.toArray⟩, .int .i64 p.2]
def VrsAt (w : World) (A : Option Addr) (l : Env) : Prop :=
  0 < l.length → ∃ b o, A = some ⟨b, o, none⟩ ∧ ∀ i (h : i < l.length), w.cell? ⟨b, o + i * 2, none⟩ = some (.string ⟨l[i].1.toArray⟩) ∧ w.cell? ⟨b, o + i * 2 + 1, none⟩ = some (.int .i64 l[i].2)
def VrssAt (w : World) (A : Option Addr) (l : List Env) : Prop :=
  0 < l.length → ∃ b o, A = some ⟨b, o, none⟩ ∧ ∀ i (h : i < l.length), ∃ T c, w.cell? ⟨b, o + i, none⟩ = some (.slice T l[i].length c) ∧ VrsAt w T l[i] ∧ l[i].length ≤ c
theorem VrsAt.below {w w' : World} {A : Option Addr} {l : Env} (h : VrsAt w A l) (hb : Below w.heap.size w w') : VrsAt w' A l := fun hp => by
  obtain ⟨b, o, e, hc⟩ := h hp
  exact ⟨b, o, e, fun i hi => ⟨cell_keep hb (hc i hi).1, cell_keep hb (hc i hi).2⟩⟩
theorem VrssAt.below {w w' : World} {A : Option Addr} {l : List Env} (h : VrssAt w A l) (hb : Below w.heap.size w w') : VrssAt w' A l := fun hp => by
  obtain ⟨b, o, e, hc⟩ := h hp
  refine ⟨b, o, e, fun i hi => ?_⟩
  obtain ⟨T, c, h1, h2, h3⟩ := hc i hi
  exact ⟨T, c, cell_keep hb h1, h2.below hb, h3⟩
theorem vrC_len (l : Env) : (vrC l).length = l.length * 2 := by
  induction l with
  | nil => rfl
  | cons p l ih => unfold vrC at *; rw [List.flatMap_cons, List.length_append, ih]; simp; omega
theorem vrC_get : ∀ (l : Env) (i : Nat) (h : i < l.length), (vrC l)[i * 2]? = some (.string ⟨l[i].1.toArray⟩) ∧ (vrC l)[i * 2 + 1]? = some (.int .i64 l[i].2)
  | p :: l, 0, _ => ⟨rfl, rfl⟩
  | p :: l, i + 1, h => by
    have := vrC_get l i (by simpa using h)
    unfold vrC at *
    rw [List.flatMap_cons]
    rw [List.getElem?_append_right (by simp; omega), List.getElem?_append_right (by simp; omega)]
    simp only [List.length_cons, List.length_nil, List.getElem_cons_succ]
    rw [show (i + 1) * 2 - (0 + 1 + 1) = i * 2 by omega, show (i + 1) * 2 + 1 - (0 + 1 + 1) = i * 2 + 1 by omega]
    exact this
theorem vrC_snoc (l : Env) (v : Str) (k : Int) : vrC (l ++ [(v, k)]) = vrC l ++ [.string ⟨v.toArray⟩, .int .i64 k] := by
  unfold vrC; rw [List.flatMap_append]; rfl
theorem own_vars {w : World} {B : Nat} {e : TypeId} {u : Value} {l : Env} (h : w.ownsRow B e 2 u l.length (vrC l)) : ∃ A c, u = .slice A l.length c ∧ VrsAt w A l ∧ l.length ≤ c := by
  have h2 := h
  rcases h.2 with ⟨rfl, h0⟩ | ⟨g, cap, cur, rfl, _, _, hn, _⟩
  · exact ⟨none, 0, by rw [h0], fun hp => absurd hp (by omega), by omega⟩
  · refine ⟨_, cap, rfl, fun _ => ⟨g, 0, rfl, fun i hi => ?_⟩, hn⟩
    rw [Nat.zero_add]
    rw [h2.cellAt _ (by omega), h2.cellAt _ (by omega)]
    exact vrC_get l i hi
theorem own_kinds {w : World} {B : Nat} {e : TypeId} {u : Value} {l : List Int} (h : w.ownsRow B e 1 u l.length (l.map (.int .i64))) : ∃ A c, u = .slice A l.length c ∧ KdsAt w A l ∧ l.length ≤ c := by
  have h2 := h
  rcases h.2 with ⟨rfl, h0⟩ | ⟨g, cap, cur, rfl, _, _, hn, _⟩
  · exact ⟨none, 0, by rw [h0], fun hp => absurd hp (by omega), by omega⟩
  · refine ⟨_, cap, rfl, fun _ => ⟨g, 0, rfl, fun i hi => ?_⟩, hn⟩
    rw [h2.cellAt (0 + i) (by omega)]
    simp [hi]

theorem foldAdd_len : ∀ (l acc : List Str), (l.foldl addN acc).length ≤ acc.length + l.length
  | [], acc => by simp
  | v :: l, acc => by
    have h1 := foldAdd_len l (addN acc v)
    have h2 := addN_len acc v
    rw [List.foldl_cons, List.length_cons]; omega
theorem flat_len : ∀ (l : List Atm) (n : Nat), (∀ a ∈ l, a.ts.length ≤ n) → (l.flatMap atomVs).length ≤ l.length * n
  | [], _, _ => by simp
  | a :: l, n, h => by
    have h1 := flat_len l n (fun b hb => h b (List.mem_cons_of_mem _ hb))
    have h2 := h a (List.mem_cons_self)
    have h3 : (atomVs a).length = a.ts.length := by unfold atomVs; simp
    rw [List.flatMap_cons, List.length_append, List.length_cons, Nat.add_mul, h3]; omega
theorem vars_short {r : Rul} (h : r.few) : (varsL r).length ≤ 100000 := by
  have h1 := foldAdd_len (allVs r) []
  have h2 := flat_len r.atoms 6 h.t
  have h3 := h.a
  have h4 := h.c
  unfold varsL
  unfold allVs at *
  simp only [List.length_append, List.length_map, List.length_nil] at *
  omega
/-- The row of maps: those of the first rules are made, the others nil. -/
structure Mps (w : World) (base g n : Nat) (bs : List Nat) (Es : List Env) : Prop where
  own : w.ownsRow base 68 1 (.slice (some ⟨g, 0, none⟩) n n) n ((bs.map fun b => Value.map (some b)) ++ List.replicate (n - bs.length) (Value.map none))
  len : bs.length = Es.length
  le : bs.length ≤ n
  mp : ∀ i (h : i < bs.length), ∃ m, KMapAt w bs[i] m (Es[i]'(by omega))
theorem Mps.below {w w' : World} {base g n : Nat} {bs : List Nat} {Es : List Env} (h : Mps w base g n bs Es) (hb : Below w.heap.size w w') : Mps w' base g n bs Es :=
  ⟨own_belowS h.own hb, h.len, h.le, fun i hi => let ⟨m, hm⟩ := h.mp i hi; ⟨m, MapAt.below hm hb⟩⟩
theorem Mps.lt {w : World} {base g n : Nat} {bs : List Nat} {Es : List Env} (h : Mps w base g n bs Es) : base ≤ g ∧ g < w.heap.size := h.own.lt g rfl
theorem Mps.kept {w w' : World} {base g n t : Nat} {bs : List Nat} {Es : List Env} (h : Mps w base g n bs Es) (hg : w.grownBy w' (some t)) (ht : g < t) (hbs : ∀ b ∈ bs, b < t) : Mps w' base g n bs Es :=
  ⟨h.own.kept hg (.inr (fun e => by simp [Value.ownBlock] at e; omega)), h.len, h.le, fun i hi => let ⟨m, hm⟩ := h.mp i hi; ⟨m, MapAt.kept hm hg (fun e => by injection e with e; have := hbs _ (List.getElem_mem hi); omega)⟩⟩
theorem Mps.bound {w : World} {base g n : Nat} {bs : List Nat} {Es : List Env} (h : Mps w base g n bs Es) : ∀ b ∈ bs, b < w.heap.size := by
  intro b hb
  obtain ⟨i, hi, rfl⟩ := List.getElem_of_mem hb
  obtain ⟨m, hm⟩ := h.mp i hi
  exact hm.lt
theorem Mps.cell {w : World} {base g n : Nat} {bs : List Nat} {Es : List Env} (h : Mps w base g n bs Es) {i : Nat} (hi : i < bs.length) : w.cell? ⟨g, i, none⟩ = some (.map (some bs[i])) := by
  rw [h.own.cellAt i (by have := h.le; omega), List.getElem?_append_left (by simpa using hi)]
  simp [hi]
theorem Mps.frozen {w : World} {base g n : Nat} {bs : List Nat} {Es : List Env} (h : Mps w base g n bs Es) (i : Nat) : w.frozen? ⟨g, i, none⟩ = false := h.own.frozenAt i
/-- A map is laid into the row. -/
theorem Mps.store {w : World} {base g n : Nat} {bs : List Nat} {Es : List Env} (h : Mps w base g n bs Es) (hlt : bs.length < n) {b m : Nat} {E : Env} (hm : KMapAt w b m E) : Mps (w.setCell ⟨g, bs.length, none⟩ (Value.map (some b))) base g n (bs ++ [b]) (Es ++ [E]) ∧ w.grownBy (w.setCell ⟨g, bs.length, none⟩ (Value.map (some b))) (some g) := by
  obtain ⟨h1, h2⟩ := h.own.stored bs.length (.map (some b))
  have hkeep : ∀ {b' m' : Nat} {E' : Env}, KMapAt w b' m' E' → KMapAt (w.setCell ⟨g, bs.length, none⟩ (Value.map (some b))) b' m' E' := fun {b' m' E'} hm' => by
    refine MapAt.kept hm' h2 (fun e => ?_)
    injection e with e
    obtain ⟨D, ⟨es, clock, hb, _⟩, _⟩ := hm'
    rcases h.own.2 with ⟨h', _⟩ | ⟨g', cap', cur, h', _, hh, _⟩
    · cases h'
    · injection h' with e1 e2 e3
      injection e1 with e1
      injection e1 with e1
      subst e1
      rw [e, hh] at hb
      cases hb
  refine ⟨⟨?_, by simp [h.len], by simp; omega, fun i hi => ?_⟩, h2⟩
  · have : ((bs.map fun b => Value.map (some b)) ++ List.replicate (n - bs.length) (Value.map none)).set bs.length (Value.map (some b)) = ((bs ++ [b]).map fun b => Value.map (some b)) ++ List.replicate (n - (bs ++ [b]).length) (Value.map none) := by
      rw [List.set_append_right _ _ (by simp)]
      rw [List.length_map, Nat.sub_self, List.map_append, List.append_assoc]
      congr 1
      rw [show n - bs.length = (n - (bs ++ [b]).length) + 1 by simp; omega, List.replicate_succ]
      rfl
    rw [← this]; exact h1
  · by_cases hi2 : i < bs.length
    · obtain ⟨m', hm'⟩ := h.mp i hi2
      have := h.len
      rw [List.getElem_append_left hi2]
      simp only [List.getElem_append_left (show i < Es.length by omega)]
      exact ⟨m', hkeep hm'⟩
    · have hie : i = bs.length := by simp at hi; omega
      subst hie
      have := h.len
      simp only [List.getElem_concat_length]
      refine ⟨m, ?_⟩
      have e : (Es ++ [E])[bs.length]'(by simp; omega) = E := by simp [h.len]
      rw [e]
      exact hkeep hm
theorem Mps.grown {w w' : World} {base g n t : Nat} {bs : List Nat} {Es : List Env} (h : Mps w base g n bs Es) {row : Option Nat} (hg : w.grownBy w' row) (hr : ∀ k, row = some k → t ≤ k) (ht : g < t) (hbs : ∀ b ∈ bs, b < t) : Mps w' base g n bs Es :=
  ⟨h.own.kept hg (.inr (fun e => by have := hr g e.symm; omega)), h.len, h.le, fun i hi => let ⟨m, hm⟩ := h.mp i hi; ⟨m, MapAt.kept hm hg (fun e => by have := hr _ e.symm; have := hbs _ (List.getElem_mem hi); omega)⟩⟩
theorem grown_set (w : World) (a : Addr) (u : Value) : w.grownBy (w.setCell a u) (some a.block) :=
  ⟨rfl, rfl, rfl, by simp [World.setCell], fun k _ hk => Below.heap_setCell w a u k (fun e => hk (by rw [e]))⟩
theorem two_set {w : World} {t : Nat} {u v x : Value} {e : TypeId} (h : w.heap[t]? = some (.cells #[u, v] e (0, 0))) : (w.setCell ⟨t, 0, none⟩ x).heap[t]? = some (.cells #[x, v] e (0, 0)) ∧ (w.setCell ⟨t, 1, none⟩ x).heap[t]? = some (.cells #[u, x] e (0, 0)) :=
  ⟨heap_setCell_same w t 0 _ e x h, heap_setCell_same w t 1 _ e x h⟩
/-- Two rows of different kinds lie apart. -/
theorem own_apart {w : World} {B1 B2 e1 e2 z1 z2 n1 n2 : Nat} {v1 v2 : Value} {x1 x2 : List Value} (h1 : w.ownsRow B1 e1 z1 v1 n1 x1) (h2 : w.ownsRow B2 e2 z2 v2 n2 x2) (he : e1 ≠ e2) : v1.ownBlock = none ∨ v1.ownBlock ≠ v2.ownBlock := by
  rcases h1.2 with ⟨rfl, _⟩ | ⟨g, cap, cur, rfl, _, hh, _⟩
  · exact .inl rfl
  · refine .inr fun e => ?_
    rcases h2.2 with ⟨rfl, _⟩ | ⟨g', cap', cur', rfl, _, hh', _⟩
    · cases e
    · have e : g = g' := by simpa [Value.ownBlock] using e
      subst e
      rw [hh] at hh'
      injection hh' with hh'
      injection hh' with _ hh' _
      exact he hh'

theorem own_mono {w : World} {B B' : Nat} {e : TypeId} {z : Nat} {v : Value} {n : Nat} {xs : List Value} (h : w.ownsRow B' e z v n xs) (hB : B ≤ B') : w.ownsRow B e z v n xs := by
  obtain ⟨hl, h0 | ⟨g, cap, cur, hv, hg, hh, r⟩⟩ := h
  · exact ⟨hl, .inl h0⟩
  · exact ⟨hl, .inr ⟨g, cap, cur, hv, by omega, hh, r⟩⟩
/-- The rules' types so far. -/
def UsAt (w : World) (B : Nat) (us : List Value) (Ls : List Env) : Prop := us.length ≤ Ls.length ∧ ∀ i (h : i < us.length) (h' : i < Ls.length), w.ownsRow B 65 2 us[i] Ls[i].length (vrC Ls[i])
theorem UsAt.below {w w' : World} {B : Nat} {us : List Value} {Ls : List Env} (h : UsAt w B us Ls) (hb : Below w.heap.size w w') : UsAt w' B us Ls := ⟨h.1, fun i hi hi' => own_belowS (h.2 i hi hi') hb⟩
theorem UsAt.kept {w w' : World} {B : Nat} {us : List Value} {Ls : List Env} (h : UsAt w B us Ls) {row : Option Nat} (hg : w.grownBy w' row) (hr : ∀ i (h : i < us.length), us[i].ownBlock = none ∨ us[i].ownBlock ≠ row) : UsAt w' B us Ls := ⟨h.1, fun i hi hi' => (h.2 i hi hi').kept hg (hr i hi)⟩
theorem UsAt.snoc {w : World} {B : Nat} {us : List Value} {Ls : List Env} (h : UsAt w B us Ls) {u : Value} (hlt : us.length < Ls.length) (hu : w.ownsRow B 65 2 u Ls[us.length].length (vrC Ls[us.length])) : UsAt w B (us ++ [u]) Ls := by
  refine ⟨by simp; omega, fun i hi hi' => ?_⟩
  by_cases h2 : i < us.length
  · rw [List.getElem_append_left h2]; exact h.2 i h2 hi'
  · have : i = us.length := by simp at hi; omega
    subst this
    simp only [List.getElem_concat_length]
    exact hu
theorem UsAt.at {w : World} {B : Nat} {us : List Value} {Ls : List Env} (h : UsAt w B us Ls) (hl : us.length = Ls.length) {R : Value} {e : TypeId} (hR : w.ownsRow B e 1 R us.length us) : ∃ A c, R = .slice A Ls.length c ∧ VrssAt w A Ls ∧ Ls.length ≤ c := by
  have h2 := hR
  rcases hR.2 with ⟨rfl, h0⟩ | ⟨g, cap, cur, rfl, _, _, hn, _⟩
  · exact ⟨none, 0, by rw [← hl, h0], fun hp => absurd hp (by omega), by omega⟩
  · refine ⟨some ⟨g, 0, none⟩, cap, by rw [hl], fun _ => ⟨g, 0, rfl, fun i hi => ?_⟩, by omega⟩
    obtain ⟨A, c, hu, hv, hc⟩ := own_vars (h.2 i (by omega) hi)
    refine ⟨A, c, ?_, hv, hc⟩
    rw [h2.cellAt (0 + i) (by omega), Nat.zero_add, List.getElem?_eq_getElem (by omega), hu]
/-- The walk's first two blocks. -/
theorem chk_cells {w w' : World} {v0 v1 v2 v3 v4 : Value} {t t' : TypeId} {r0 r1 : Value} (h : Below (w.heap.size + 1 + 1) ((w.alloc (.cells #[v0, v1, v2, v3, v4] t)).alloc (.cells #[r0, r1] t')) w') :
    w'.cell? ⟨w.heap.size, 0, none⟩ = some v0 ∧ w'.cell? ⟨w.heap.size, 1, none⟩ = some v1 ∧ w'.cell? ⟨w.heap.size, 2, none⟩ = some v2 ∧ w'.cell? ⟨w.heap.size, 3, none⟩ = some v3 ∧ w'.cell? ⟨w.heap.size, 4, none⟩ = some v4 ∧
    w'.heap[w.heap.size + 1]? = some (.cells #[r0, r1] t') ∧ w.heap.size + 1 < w'.heap.size ∧ Below w.heap.size w w' := by
  have hA : Below (w.heap.size + 1) (w.alloc (.cells #[v0, v1, v2, v3, v4] t)) w' := ((Below.refl _ _).alloc (by simp) _).trans (h.mono (by omega))
  obtain ⟨a, b, c, d, e, _, g⟩ := qry_cells hA
  refine ⟨a, b, c, d, e, ?_, ?_, g⟩
  · rw [h.block _ (by omega)]
    have := heap_alloc_new (w.alloc (.cells #[v0, v1, v2, v3, v4] t)) (.cells #[r0, r1] t')
    simpa using this
  · have := h.size
    simp at this
    omega

/-- The kinds of all rules, from some rule on. -/
def glueA (Es : List Env) (z : Int × List Env) : Int × List Env := if z.1 = 0 then (0, Es ++ z.2) else (z.1, [])
theorem inferAll_cons (S : List Sch) (r : Rul) (l : List Rul) : inferAll S (r :: l) = if (inferT S [] r.atoms).1 = 0 then (if (inferAll S l).1 = 0 then (0, (inferT S [] r.atoms).2 :: (inferAll S l).2) else ((inferAll S l).1, [])) else ((inferT S [] r.atoms).1, []) := rfl
theorem glueA_nil (S : List Sch) (l : List Rul) : glueA [] (inferAll S l) = inferAll S l := by
  cases l with
  | nil => rfl
  | cons r l =>
    rw [inferAll_cons]
    generalize inferAll S l = z
    by_cases h1 : (inferT S [] r.atoms).1 = 0
    · by_cases h2 : z.1 = 0
      · simp [glueA, h1, h2]
      · simp [glueA, h1, h2]
    · simp [glueA, h1]
theorem glueA_on {S : List Sch} {Es : List Env} {l : List Rul} {k : Nat} (h : k < l.length) {E : Env} (hE : inferT S [] l[k].atoms = (0, E)) : glueA Es (inferAll S (l.drop k)) = glueA (Es ++ [E]) (inferAll S (l.drop (k + 1))) := by
  rw [List.drop_eq_getElem_cons h, inferAll_cons, hE, if_pos rfl]
  generalize inferAll S (l.drop (k + 1)) = z
  by_cases h2 : z.1 = 0
  · simp [glueA, h2]
  · simp [glueA, h2]
theorem glueA_bad {S : List Sch} {Es : List Env} {l : List Rul} {k : Nat} (h : k < l.length) {e : Int} {E : Env} (hE : inferT S [] l[k].atoms = (e, E)) (he : e ≠ 0) : glueA Es (inferAll S (l.drop k)) = (e, []) := by
  rw [List.drop_eq_getElem_cons h, inferAll_cons, hE]
  simp [he, glueA]
theorem glueA_end {S : List Sch} {Es : List Env} {l : List Rul} {k : Nat} (h : ¬ k < l.length) : glueA Es (inferAll S (l.drop k)) = (0, Es) := by
  rw [List.drop_eq_nil_of_le (by omega)]; simp [inferAll, glueA]
theorem verifyAll_on {l : List Rul} {Es : List Env} {k : Nat} (h : k < l.length) (h' : k < Es.length) (h0 : verifyT l[k] Es[k] = 0) : verifyAll (l.drop k) (Es.drop k) = verifyAll (l.drop (k + 1)) (Es.drop (k + 1)) := by
  rw [List.drop_eq_getElem_cons h, List.drop_eq_getElem_cons h', verifyAll, if_pos h0]
theorem verifyAll_bad {l : List Rul} {Es : List Env} {k : Nat} (h : k < l.length) (h' : k < Es.length) (h0 : verifyT l[k] Es[k] ≠ 0) : verifyAll (l.drop k) (Es.drop k) = verifyT l[k] Es[k] := by
  rw [List.drop_eq_getElem_cons h, List.drop_eq_getElem_cons h', verifyAll, if_neg h0]
theorem verifyAll_end {l : List Rul} {Es : List Env} {k : Nat} (h : ¬ k < l.length) : verifyAll (l.drop k) (Es.drop k) = 0 := by
  rw [List.drop_eq_nil_of_le (by omega)]; cases Es.drop k <;> rfl
end Go.Proofs.Ytgeapgbebbapmaa
