/-
  ROWS OF THE CALL'S OWN FOR THE LAW CheckTurns: turned rules in memory: each one's atoms in a row of the call's own, or none.
-/
import Derived.Test.YtgeapgbebbapmaaUnuA
import Derived.Test.YtgeapgbebbapmaaLwP2
namespace Go.Proofs.Ytgeapgbebbapmaa
open Go.RowKit

theorem turned_rot (r : Rul) (k : Nat) : Turned r ⟨r.atoms.drop k ++ r.atoms.take k, r.conds⟩ := by
  refine ⟨rfl, by simp; omega, fun a => ?_⟩
  show a ∈ r.atoms ↔ a ∈ r.atoms.drop k ++ r.atoms.take k
  constructor
  · intro h
    rw [← List.take_append_drop k r.atoms] at h
    rcases List.mem_append.1 h with h | h
    · exact List.mem_append_right _ h
    · exact List.mem_append_left _ h
  · intro h
    rcases List.mem_append.1 h with h | h
    · exact List.mem_of_mem_drop h
    · exact List.mem_of_mem_take h
theorem turned_self (r : Rul) : Turned r r := ⟨rfl, rfl, fun _ => Iff.rfl⟩
theorem TurnedL.nil : TurnedL [] [] := ⟨rfl, fun i h => absurd h (by simp)⟩
/-- What stands so far of the turned rules. -/
theorem TurnedL.take_succ {l m : List Rul} {k : Nat} (hk : k < l.length) (h : TurnedL (l.take k) m) {t : Rul} (ht : Turned l[k] t) : TurnedL (l.take (k + 1)) (m ++ [t]) := by
  have hm : m.length = k := by rw [h.1, List.length_take]; omega
  refine ⟨by simp [hm]; omega, fun i hi hi' => ?_⟩
  by_cases hik : i < k
  · have h1 := h.2 i (by rw [List.length_take]; omega) (by omega)
    simp only [List.getElem_take] at h1 ⊢
    rw [List.getElem_append_left (by omega)]
    exact h1
  · have : i = k := by rw [List.length_take] at hi; omega
    subst this
    simp only [List.getElem_take]
    rw [List.getElem_append_right (by omega)]
    simpa [hm] using ht

/-- The atoms of a turned rule, v their slice; w0: the world of the call's beginning, in which the terms lie. -/
def OwnA (w0 w : World) (B : Nat) (v : Value) (l : List Atm) : Prop :=
  (l = [] ∧ ∃ T c, v = .slice T 0 c) ∨ ∃ g : Nat → List Value, w.ownsRow B 51 3 v l.length ((List.range l.length).flatMap g) ∧ (∀ i, (g i).length = 3) ∧ ∀ i (hi : i < l.length), AtmC w0 l[i] (g i)
theorem OwnA.below {w0 w w' : World} {B : Nat} {v : Value} {l : List Atm} (h : OwnA w0 w B v l) (hb : Below w.heap.size w w') : OwnA w0 w' B v l := by
  rcases h with h | ⟨g, h1, h2⟩
  · exact .inl h
  · exact .inr ⟨g, own_belowS h1 hb, h2⟩
theorem OwnA.kept {w0 w w' : World} {B : Nat} {v : Value} {l : List Atm} (h : OwnA w0 w B v l) {B2 e2 z2 n2 : Nat} {v2 : Value} {x2 : List Value} (h2 : w.ownsRow B2 e2 z2 v2 n2 x2) (he : e2 ≠ 51) (hg : w.grownBy w' v2.ownBlock) : OwnA w0 w' B v l := by
  rcases h with h | ⟨g, h1, h3⟩
  · exact .inl h
  · exact .inr ⟨g, h1.kept hg (own_apart h1 h2 (fun e => he e.symm)), h3⟩
theorem OwnA.far {w0 w w' : World} {B t : Nat} {v : Value} {l : List Atm} (h : OwnA w0 w B v l) (hg : w.grownBy w' (some t)) (ht : t < B) : OwnA w0 w' B v l := by
  rcases h with h | ⟨g, h1, h3⟩
  · exact .inl h
  · exact .inr ⟨g, h1.kept hg (.inr (fun e => by have := (h1.lt t e).1; omega)), h3⟩
theorem OwnA.at {w0 w : World} {B : Nat} {v : Value} {l : List Atm} (h : OwnA w0 w B v l) (hb : Below w0.heap.size w0 w) : ∃ A c, v = .slice A l.length c ∧ AtmsAt w A l ∧ (l = [] ∨ l.length ≤ c) := by
  rcases h with ⟨rfl, T, c, rfl⟩ | ⟨g, h1, h2, h3⟩
  · exact ⟨T, c, rfl, AtmsAt.nil, .inl rfl⟩
  · obtain ⟨A, c, e, hrow, hle⟩ := own_rowC (C := AtmC) h2 h1 (fun i hi => (h3 i hi).below hb)
    exact ⟨A, c, e, atmsC.2 hrow, .inr hle⟩
/-- All turned rules so far: vs the slices of their atoms, ds those of their conditions. -/
def OwnAs (w0 w : World) (B : Nat) (vs : List Value) (ms : List Rul) : Prop := vs.length = ms.length ∧ ∀ i (h : i < vs.length) (h' : i < ms.length), OwnA w0 w B vs[i] ms[i].atoms
theorem OwnAs.nil {w0 w : World} {B : Nat} : OwnAs w0 w B [] [] := ⟨rfl, fun i hi => absurd hi (by simp)⟩
theorem OwnAs.below {w0 w w' : World} {B : Nat} {vs : List Value} {ms : List Rul} (h : OwnAs w0 w B vs ms) (hb : Below w.heap.size w w') : OwnAs w0 w' B vs ms := ⟨h.1, fun i hi hi' => (h.2 i hi hi').below hb⟩
theorem OwnAs.kept {w0 w w' : World} {B : Nat} {vs : List Value} {ms : List Rul} (h : OwnAs w0 w B vs ms) {B2 e2 z2 n2 : Nat} {v2 : Value} {x2 : List Value} (h2 : w.ownsRow B2 e2 z2 v2 n2 x2) (he : e2 ≠ 51) (hg : w.grownBy w' v2.ownBlock) : OwnAs w0 w' B vs ms := ⟨h.1, fun i hi hi' => (h.2 i hi hi').kept h2 he hg⟩
theorem OwnAs.far {w0 w w' : World} {B t : Nat} {vs : List Value} {ms : List Rul} (h : OwnAs w0 w B vs ms) (hg : w.grownBy w' (some t)) (ht : t < B) : OwnAs w0 w' B vs ms := ⟨h.1, fun i hi hi' => (h.2 i hi hi').far hg ht⟩
theorem OwnAs.push {w0 w : World} {B : Nat} {vs : List Value} {ms : List Rul} (h : OwnAs w0 w B vs ms) {v : Value} {m : Rul} (hv : OwnA w0 w B v m.atoms) : OwnAs w0 w B (vs ++ [v]) (ms ++ [m]) := by
  refine ⟨by simp [h.1], fun i hi hi' => ?_⟩
  by_cases h2 : i < vs.length
  · have := h.1
    rw [List.getElem_append_left h2]
    simp only [List.getElem_append_left (show i < ms.length by omega)]
    exact h.2 i h2 (by omega)
  · have : i = vs.length := by simp at hi; omega
    subst this
    simp only [List.getElem_concat_length]
    have e : (ms ++ [m])[vs.length]'hi' = m := by simp [h.1]
    rw [e]; exact hv
/-- The cells of a rotated list. -/
def rotF (f : Nat → List Value) (n k : Nat) : Nat → List Value := fun i => if i < n - k then f (k + i) else f (i - (n - k))
theorem rot_get {α : Type} {l : List α} {k i : Nat} (hk : k < l.length) (hi : i < (l.drop k ++ l.take k).length) : ∃ j, ∃ hj : j < l.length, (l.drop k ++ l.take k)[i] = l[j] ∧ j = if i < l.length - k then k + i else i - (l.length - k) := by
  have hlen : (l.drop k ++ l.take k).length = l.length := by simp; omega
  by_cases h : i < l.length - k
  · refine ⟨k + i, by omega, ?_, by rw [if_pos h]⟩
    rw [List.getElem_append_left (by simpa using h)]
    simp
  · refine ⟨i - (l.length - k), by omega, ?_, by rw [if_neg h]⟩
    rw [List.getElem_append_right (by simp; omega)]
    simp
theorem rot_C {w0 : World} {l : List Atm} {f : Nat → List Value} {k : Nat} (hk : k < l.length) (hC : ∀ i (hi : i < l.length), AtmC w0 l[i] (f i)) : ∀ i (hi : i < (l.drop k ++ l.take k).length), AtmC w0 (l.drop k ++ l.take k)[i] (rotF f l.length k i) := by
  intro i hi
  obtain ⟨j, hj, e1, e2⟩ := rot_get hk hi
  rw [e1]
  have : rotF f l.length k i = f j := by
    unfold rotF
    rw [e2]
    by_cases h : i < l.length - k
    · rw [if_pos h, if_pos h]
    · rw [if_neg h, if_neg h]
  rw [this]
  exact hC j hj
/-- .. are those of the end, and those of the beginning. -/
theorem rot_flat (f : Nat → List Value) (n k : Nat) (hk : k ≤ n) : (List.range n).flatMap (rotF f n k) = ((List.range (n - k)).flatMap fun i => f (k + i)) ++ (List.range k).flatMap f := by
  have h1 : ∀ m, m ≤ n - k → (List.range m).flatMap (rotF f n k) = (List.range m).flatMap fun i => f (k + i) := by
    intro m
    induction m with
    | zero => intro _; rfl
    | succ m ih =>
      intro hm
      rw [flat_succ, flat_succ, ih (by omega)]
      unfold rotF
      rw [if_pos (by omega)]
  have h2 : ∀ m, m ≤ k → (List.range (n - k + m)).flatMap (rotF f n k) = ((List.range (n - k)).flatMap fun i => f (k + i)) ++ (List.range m).flatMap f := by
    intro m
    induction m with
    | zero => intro _; rw [Nat.add_zero, h1 _ (Nat.le_refl _)]; simp
    | succ m ih =>
      intro hm
      rw [← Nat.add_assoc, flat_succ, ih (by omega), flat_succ, List.append_assoc]
      congr 2
      unfold rotF
      rw [if_neg (by omega)]
      congr 1
      omega
  have h3 := h2 k (Nat.le_refl _)
  rwa [show n - k + k = n by omega] at h3

/-- The cells of the list's end, from there on; of its beginning. -/
theorem rot_cells {w : World} {b o n k : Nat} {f : Nat → List Value} (hf : ∀ i, (f i).length = 3) (hc : ∀ j u, ((List.range n).flatMap f)[j]? = some u → w.cell? (Addr.add ⟨b, o, none⟩ j) = some u) (hk : k ≤ n) :
    ∀ j u, ((List.range (n - k)).flatMap fun i => f (k + i))[j]? = some u → w.cell? (Addr.add ⟨b, o + k * 3, none⟩ j) = some u := by
  intro j u hj
  obtain ⟨i, r, hi, hr, hjj, hu⟩ := flat_range_at (f := fun i => f (k + i)) (fun i => hf _) hj
  have h1 : ((List.range n).flatMap f)[(k + i) * 3 + r]? = some u := by
    rw [flat_get hf (List.range n) (k + i) r (by rw [List.length_range]; omega) hr]
    simpa using hu
  have h2 := hc _ _ h1
  rw [Addr.add_lit] at h2 ⊢
  rw [show o + k * 3 + j = o + ((k + i) * 3 + r) by omega]
  exact h2
theorem beg_cells {w : World} {b o n k : Nat} {f : Nat → List Value} (hf : ∀ i, (f i).length = 3) (hc : ∀ j u, ((List.range n).flatMap f)[j]? = some u → w.cell? (Addr.add ⟨b, o, none⟩ j) = some u) (hk : k ≤ n) :
    ∀ j u, ((List.range k).flatMap f)[j]? = some u → w.cell? (Addr.add ⟨b, o, none⟩ j) = some u := by
  intro j u hj
  obtain ⟨i, r, hi, hr, hjj, hu⟩ := flat_range_at hf hj
  refine hc j u ?_
  rw [hjj, flat_get hf (List.range n) i r (by rw [List.length_range]; omega) hr]
  simpa using hu
theorem rot_sub {n k : Nat} {f : Nat → List Value} {u : Value} (h : u ∈ (List.range (n - k)).flatMap fun i => f (k + i)) : u ∈ (List.range n).flatMap f := by
  obtain ⟨i, hi, hu⟩ := List.mem_flatMap.1 h
  exact List.mem_flatMap.2 ⟨k + i, List.mem_range.2 (by have := List.mem_range.1 hi; omega), hu⟩
theorem beg_sub {n k : Nat} {f : Nat → List Value} {u : Value} (hk : k ≤ n) (h : u ∈ (List.range k).flatMap f) : u ∈ (List.range n).flatMap f := by
  obtain ⟨i, hi, hu⟩ := List.mem_flatMap.1 h
  exact List.mem_flatMap.2 ⟨i, List.mem_range.2 (by have := List.mem_range.1 hi; omega), hu⟩

/-- The slices of the turned rules' conditions: those of the query's own rules. -/
def CndsS (w : World) (ds : List Value) (ms : List Rul) : Prop := ds.length = ms.length ∧ ∀ i (h : i < ds.length) (h' : i < ms.length), ∃ T c, ds[i] = .slice T ms[i].conds.length c ∧ CndsAt w T ms[i].conds ∧ ms[i].conds.length ≤ c ∧ ms[i].conds.length ≤ 9223372036854775807 ∧ ms[i].atoms.length ≤ 9223372036854775807
theorem CndsS.nil {w : World} : CndsS w [] [] := ⟨rfl, fun i hi => absurd hi (by simp)⟩
theorem CndsS.push {w : World} {ds : List Value} {ms : List Rul} (h : CndsS w ds ms) {T : Option Addr} {n c : Nat} {m : Rul} (hn : m.conds.length = n) (h1 : CndsAt w T m.conds) (h2 : m.conds.length ≤ c) (h3 : m.conds.length ≤ 9223372036854775807) (h4 : m.atoms.length ≤ 9223372036854775807) : CndsS w (ds ++ [.slice T n c]) (ms ++ [m]) := by
  subst hn
  refine ⟨by simp [h.1], fun i hi hi' => ?_⟩
  by_cases hh : i < ds.length
  · have := h.1
    rw [List.getElem_append_left hh]
    simp only [List.getElem_append_left (show i < ms.length by omega)]
    exact h.2 i hh (by omega)
  · have : i = ds.length := by simp at hi; omega
    subst this
    simp only [List.getElem_concat_length]
    have e : (ms ++ [m])[ds.length]'hi' = m := by simp [h.1]
    rw [e]; exact ⟨T, c, rfl, h1, h2, h3, h4⟩
theorem turn_set (w : World) (b i : Nat) (v : Value) : w.grownBy (w.setCell ⟨b, i, none⟩ v) (some b) :=
  ⟨rfl, rfl, rfl, by simp [World.setCell], fun k _ hk => by
    simp only [World.setCell]
    rw [Array.getElem?_modify, if_neg]
    exact fun e => hk (by rw [e])⟩
theorem zip_push {vs ds : List Value} (h : vs.length = ds.length) (v d : Value) : ((vs ++ [v]).zip (ds ++ [d])).flatMap (fun p => [p.1, p.2]) = ((vs.zip ds).flatMap fun p => [p.1, p.2]) ++ [v, d] := by
  rw [List.zip_append h, List.flatMap_append]; rfl
theorem zip_range {vs ds : List Value} {n : Nat} (h1 : vs.length = n) (h2 : ds.length = n) : ((vs.zip ds).flatMap fun p => [p.1, p.2]) = (List.range n).flatMap fun i => [(vs[i]?).getD undef, (ds[i]?).getD undef] := by
  have : vs.zip ds = (List.range n).map fun i => ((vs[i]?).getD undef, (ds[i]?).getD undef) := by
    apply List.ext_getElem
    · simp [h1, h2]
    · intro i hi hi'
      simp only [List.length_zip] at hi
      rw [List.getElem_zip, List.getElem_map, List.getElem_range, List.getElem?_eq_getElem (by omega), List.getElem?_eq_getElem (by omega)]; rfl
  rw [this, List.flatMap_map]
/-- The query of the turned rules in memory. -/
theorem turn_in {w w' : World} {q : Qry} {A R O : Option Addr} {ch cr co : Nat} (hq : QryIn w q A R O ch cr co) (hb : Below w.heap.size w w') {B B' k : Nat} {u : Value} {vs ds : List Value} {ms : List Rul} (hl : vs.length = k ∧ ds.length = k ∧ ms.length = k) (hk : k = q.rules.length)
    (hu : w'.ownsRow B 46 2 u k ((vs.zip ds).flatMap fun p => [p.1, p.2])) (hv : OwnAs w w' B' vs ms) (hd : CndsS w ds ms) :
    ∃ A' c', u = .slice A' ms.length c' ∧ QryIn w' (turnQ q ms) A A' O ch c' co := by
  obtain ⟨l1, l2, l3⟩ := hl
  rw [zip_range l1 l2, ← l3] at hu
  obtain ⟨A', c', e1, hrow, hle⟩ := own_rowC (C := RulC) (k := 2) (l := ms) (f := fun i => [(vs[i]?).getD undef, (ds[i]?).getD undef]) (fun i => rfl) hu (fun i hi => by
    obtain ⟨T, c, ev, ha, hc⟩ := (hv.2 i (by omega) hi).at hb
    obtain ⟨T2, c2, ed, h1, h2, h3, h4⟩ := hd.2 i (by omega) hi
    refine ⟨T, c, T2, c2, ?_, ha, h1.below hb, ?_, h2, h4, h3⟩
    · rw [List.getElem?_eq_getElem (show i < vs.length by omega), List.getElem?_eq_getElem (show i < ds.length by omega), ev, ed]; rfl
    · rcases hc with hc | hc
      · rw [hc]; exact Nat.zero_le _
      · exact hc)
  refine ⟨A', c', e1, hq.head.below hb, rulsC.2 hrow, hq.order.below hb, hq.lh, hle, hq.lo, hq.mh, ?_, hq.mo⟩
  show ms.length ≤ _
  rw [l3, hk]; exact hq.mr
theorem turn_wf {q : Qry} {ms : List Rul} (h : q.wf) (ht : TurnedL q.rules ms) : (turnQ q ms).wf := ⟨h.head, h.agg, h.aggVar, fun r hr => by
  obtain ⟨i, hi, rfl⟩ := List.getElem_of_mem hr
  have hi' : i < ms.length := hi
  have hm := ht.2 i (by rw [← ht.1]; exact hi') hi'
  have hi2 : i < q.rules.length := by rw [← ht.1]; exact hi'
  have h0 := h.rules q.rules[i] (List.getElem_mem hi2)
  exact ⟨fun a ha => h0.atoms a ((hm.mem a).2 ha), fun c hc => h0.conds c (by rw [← hm.c]; exact hc)⟩, h.order⟩

def kdsI (E : Env) : Prop := ∀ p ∈ E, I64 p.2
theorem kindE_wf {E : Env} {v : Str} (h : kdsI E) : I64 (kindE E v) := by
  unfold kindE
  cases hg : getE E v with
  | none => exact ⟨by decide, by decide⟩
  | some k =>
    unfold getE at hg
    rw [Option.map_eq_some_iff] at hg
    obtain ⟨p, hp, rfl⟩ := hg
    exact h p (List.mem_of_find?_eq_some hp)
theorem termT_wf {E E' : Env} {t : Trm} {k : Int} (hE : kdsI E) (hk : I64 k) (h : termT E t k = some E') : kdsI E' := by
  rcases termT_ways E t k with ⟨_, _, h2⟩ | ⟨_, _, h2⟩ | ⟨_, _, h2⟩ | ⟨_, _, _, _, h2⟩ | ⟨_, _, h2⟩
  · rw [h2] at h; injection h with h; subst h; exact hE
  · rw [h2] at h; cases h
  · rw [h2] at h; injection h with h; subst h; exact hE
  · rw [h2] at h; cases h
  · rw [h2] at h; injection h with h; subst h
    intro p hp
    rcases List.mem_append.1 hp with hp | hp
    · exact hE p hp
    · rw [List.mem_singleton] at hp; subst hp; exact hk
theorem termsT_wf : ∀ {ts : List Trm} {ks : List Int} {E E' : Env}, kdsI E → (∀ k ∈ ks, I64 k) → termsT E ts ks = some E' → kdsI E'
  | [], _, E, E', hE, _, h => by
    unfold termsT at h; injection h with h; subst h; exact hE
  | _ :: _, [], E, E', hE, _, h => by
    unfold termsT at h; injection h with h; subst h; exact hE
  | t :: ts, k :: ks, E, E', hE, hk, h => by
    unfold termsT at h
    cases hm : termT E t k with
    | none => rw [hm] at h; cases h
    | some F =>
      rw [hm] at h
      exact termsT_wf (termT_wf hE (hk k (List.mem_cons_self ..)) hm) (fun k h => hk k (List.mem_cons_of_mem _ h)) h
theorem atomT_wf {S : List Sch} {E : Env} {a : Atm} (hS : ∀ s ∈ S, s.wf) (hE : kdsI E) : kdsI (atomT S E a).2 := by
  unfold atomT
  cases hf : findS S a.rel with
  | none => exact fun p hp => by cases hp
  | some s =>
    simp only
    split
    · exact fun p hp => by cases hp
    · cases ht : termsT E a.ts s.kinds with
      | none => exact fun p hp => by cases hp
      | some F => exact termsT_wf hE (hS s (findS_mem hf)).kinds ht
theorem inferT_wf {S : List Sch} (hS : ∀ s ∈ S, s.wf) : ∀ {l : List Atm} {E : Env}, kdsI E → kdsI (inferT S E l).2
  | [], E, hE => hE
  | a :: l, E, hE => by
    unfold inferT
    split
    · exact inferT_wf hS (atomT_wf hS hE)
    · exact fun p hp => by cases hp
theorem inferAll_wf {S : List Sch} (hS : ∀ s ∈ S, s.wf) : ∀ {l : List Rul}, ∀ E ∈ (inferAll S l).2, kdsI E
  | [], E, hE => by cases hE
  | r :: l, E, hE => by
    unfold inferAll at hE
    split at hE
    · split at hE
      · rcases List.mem_cons.1 hE with rfl | hE
        · exact inferT_wf hS (fun p hp => by cases hp)
        · exact inferAll_wf hS E hE
      · cases hE
    · cases hE
/-- Names and kinds that Check tells. -/
structure Typ.wf (t : Typ) : Prop where
  v : ∀ l ∈ t.rules, ∀ p ∈ l, p.1.length ≤ 9223372036854775807 ∧ I64 p.2
theorem checkT_wf {q : Qry} {S : List Sch} (hq : q.wf) (hS : ∀ s ∈ S, s.wf) : (checkT q S).2.wf := by
  have h0 : Typ.wf ⟨[], []⟩ := ⟨fun l hl => by cases hl⟩
  unfold checkT
  repeat' split
  all_goals first | exact h0 | skip
  refine ⟨fun l hl p hp => ?_⟩
  unfold typesOf at hl
  obtain ⟨⟨r, E⟩, hr, rfl⟩ := List.mem_map.1 hl
  obtain ⟨v, hv, rfl⟩ := List.mem_map.1 hp
  have hrm := (List.of_mem_zip hr).1
  have hEm := (List.of_mem_zip hr).2
  refine ⟨?_, kindE_wf (inferAll_wf hS E hEm)⟩
  have h1 := (vars_in.1 hv).1
  unfold allVs at h1
  rcases List.mem_append.1 h1 with h1 | h1
  · obtain ⟨a, ha, h1⟩ := List.mem_flatMap.1 h1
    obtain ⟨t, ht, rfl⟩ := List.mem_map.1 h1
    exact (((hq.rules r hrm).atoms a ha).ts t ht).v
  · obtain ⟨c, hc, rfl⟩ := List.mem_map.1 h1
    exact ((hq.rules r hrm).conds c hc).v
theorem env_take {l : Env} {j : Nat} (hj : j < l.length) (hn : (l.map (·.1)).Nodup) : getE (l.take j) l[j].1 = none := by
  rw [getE_none]
  intro h
  obtain ⟨p, hp, e⟩ := List.mem_map.1 h
  obtain ⟨i, hi, rfl⟩ := List.getElem_of_mem hp
  rw [List.length_take] at hi
  rw [List.getElem_take] at e
  have h1 := (List.nodup_iff_pairwise_ne.1 hn)
  rw [List.pairwise_iff_getElem] at h1
  exact h1 i j (by simp; omega) (by simp; omega) (by omega) (by simpa using e)
theorem env_mem {l : Env} {p : Str × Int} (hp : p ∈ l) (hn : (l.map (·.1)).Nodup) : getE l p.1 = some p.2 := by
  induction l with
  | nil => cases hp
  | cons a l ih =>
    rw [List.map_cons, List.nodup_cons] at hn
    unfold getE
    rw [List.find?_cons]
    rcases List.mem_cons.1 hp with rfl | hp
    · simp
    · have : a.1 ≠ p.1 := fun e => hn.1 (List.mem_map.2 ⟨p, hp, e.symm⟩)
      rw [show (a.1 == p.1) = false by simpa using this]
      exact ih hp hn.2
end Go.Proofs.Ytgeapgbebbapmaa
