/-
  WALK: the law CheckRenames, over what awake answers; no condition but the form's on the lengths of strings.
-/
import Derived.Test.YtgeapgbebbapmaaRen3
import Derived.Test.YtgeapgbebbapmaaLwP2
import Derived.Test.YtgeapgbebbapmaaReg
import Derived.Test.YtgeapgbebbapmaaChk7
import Derived.Test.YtgeapgbebbapmaaLw21c
import Derived.Test.YtgeapgbebbapmaaLw21d
import Derived.Laws.StructEq
import Derived.Deep.QuietTactic
import Derived.Deep.DeepCutAuto
namespace Go.Proofs.Ytgeapgbebbapmaa
open Go.RowKit

section
variable {P : Program} {Q : Exit → Act → World → Prop}

def earlyB (l : List Oper) : Bool := (List.range l.length).all fun i => match l[i]? with
  | some o => o.after.all fun e => !Region.binds .any e || decide (e.on < i)
  | none => true

theorem earlyB_at {l : List Oper} (h : earlyB l = true) {i : Nat} {o : Oper} (ho : l[i]? = some o) : ∀ e ∈ o.after, Region.binds .any e = true → e.on < i := by
  intro e he hb
  have hi : i < l.length := (List.getElem?_eq_some_iff.1 ho).1
  have := List.all_eq_true.1 h i (List.mem_range.2 hi)
  simp only [ho] at this
  obtain ⟨k, hk, rfl⟩ := Array.mem_iff_getElem.1 he
  have := Array.all_eq_true.1 this k hk
  simpa [hb] using this

/-- Where an operation is left, one may come up: the least one. -/
theorem ready_of_leftB {l : List Oper} (h : earlyB l = true) {listed : Array Bool} (hs : listed.size = l.length) : ∀ i, i < l.length → listed.getD i true = false → ∃ j, j ∈ Region.ready .any l.toArray listed := by
  intro i
  induction i using Nat.strongRecOn with
  | ind i ih =>
    intro hi hf
    obtain ⟨o, ho⟩ : ∃ o, l[i]? = some o := ⟨_, List.getElem?_eq_getElem hi⟩
    by_cases hall : ∀ e ∈ o.after, Region.binds .any e = true → listed.getD e.on false = true
    · exact ⟨i, mem_ready.2 ⟨hf, o, by simpa using ho, hall⟩⟩
    · have hall := Classical.not_forall.1 hall
      obtain ⟨e, he⟩ := hall
      obtain ⟨he, hb⟩ := Classical.not_imp.1 he
      obtain ⟨hbb, hb⟩ := Classical.not_imp.1 hb
      have hlt := earlyB_at h ho e he hbb
      refine ih e.on hlt (by omega) ?_
      have hlt' : e.on < listed.size := by omega
      simpa [hlt'] using hb

theorem wpAny_invB {l : List Oper} (h : earlyB l = true) {I : (Nat → Bool) → Act → World → Prop} (hst : allSteps P l.toArray Q I l 0) (fin : ∀ d a w, I d a w → (∀ j, d j = true) → Q .normal a w) :
    ∀ (fuel : Nat) (listed : Array Bool) (a : Act) (w : World), listed.size = l.length → togo l.length listed ≤ fuel → I (fun j => listed.getD j true) a w → wpAny P .any l.toArray Q fuel listed a w := by
  have all_of : ∀ (listed : Array Bool), listed.size = l.length → Region.ready .any l.toArray listed = [] → ∀ j, listed.getD j true = true := by
    intro listed hs hr j
    cases hb : listed.getD j true with
    | true => rfl
    | false =>
      have hj : j < l.length := by
        rcases Nat.lt_or_ge j listed.size with h' | h'
        · omega
        · simp [Array.getElem?_eq_none h'] at hb
      obtain ⟨k, hk⟩ := ready_of_leftB h hs j hj hb
      rw [hr] at hk
      cases hk
  intro fuel
  induction fuel with
  | zero =>
    intro listed a w hs hf hI
    have hz : ∀ j, listed.getD j true = true := by
      intro j
      cases hb : listed.getD j true with
      | true => rfl
      | false =>
        have hj : j < l.length := by
          rcases Nat.lt_or_ge j listed.size with h' | h'
          · omega
          · simp [Array.getElem?_eq_none h'] at hb
        have : 0 < togo l.length listed := List.countP_pos_iff.2 ⟨j, List.mem_range.2 hj, by rw [hb]; rfl⟩
        omega
    refine ⟨?_, fin _ a w hI hz⟩
    cases hr : Region.ready .any l.toArray listed with
    | nil => rfl
    | cons x xs =>
      have : x ∈ Region.ready .any l.toArray listed := by rw [hr]; exact List.mem_cons_self ..
      have := (mem_ready.1 this).1
      rw [hz x] at this
      cases this
  | succ fuel ih =>
    intro listed a w hs hf hI
    refine ⟨fun hr => fin _ a w hI (all_of listed hs hr), fun i hi => ?_⟩
    obtain ⟨hun, o, ho, haft⟩ := mem_ready.1 hi
    have hlt : i < l.length := by simpa using (Array.getElem?_eq_some_iff.1 ho).1
    have ho' : l[i]? = some o := by simpa using ho
    have hs0 := allSteps_at hst ho' (fun j => listed.getD j true) a w hI (by simpa using hun) (fun e he hb => by
      have h1 := haft e he hb
      have h2 : e.on < listed.size := by have := earlyB_at h ho' e he hb; omega
      simp [h2] at h1 ⊢
      exact h1)
    rw [Nat.zero_add] at hs0
    refine wpOp_mono (fun a' w' hI' => ih _ a' w' (by simpa using hs) ?_ ?_) (wpOp_of_list ho hs0)
    · have : togo l.length (listed.setIfInBounds i true) < togo l.length listed := by
        refine countP_lt (i := i) (fun j hj hq => ?_) (List.mem_range.2 hlt) (by simpa using hun) (by rw [getD_upd (by omega)]; simp [upd])
        rw [getD_upd (by omega)] at hq
        unfold upd at hq
        by_cases hji : j = i
        · rw [if_pos hji] at hq; cases hq
        · rw [if_neg hji] at hq; exact hq
      omega
    · have : (fun j => (listed.setIfInBounds i true).getD j true) = upd (fun j => listed.getD j true) i := funext fun j => getD_upd (by omega) j
      rw [this]
      exact hI'

/-- A region that draws its order, by an invariant over what has come up: each operation once. -/
theorem wp_region_invB {l : List Oper} {id : Nat} {a : Act} {w : World} (I : (Nat → Bool) → Act → World → Prop) (hm : P.follows .mixedOrders = true) (h : earlyB l = true) (h0 : I (fun j => decide (l.length ≤ j)) a w.drew)
    (hst : allSteps P l.toArray Q I l 0) (fin : ∀ d a w, I d a w → (∀ j, d j = true) → Q .normal a w) : (Code.region id l.toArray true).wp P Q a w := by
  refine wp_region_any hm ?_
  refine wpAny_invB h hst fin _ _ _ _ (by simp) ?_ ?_
  · unfold togo
    refine Nat.le_trans List.countP_le_length (by simp)
  · have : (fun j => (Array.replicate l.toArray.size false).getD j true) = (fun j => decide (l.length ≤ j)) := by
      funext j
      by_cases hj : j < l.length <;> simp [hj] <;> omega
    rw [this]
    exact h0


/-- The same, and what an operation waits for has come up ahead of it. -/
theorem wp_region_inv3 {l : List Oper} {id : Nat} {a : Act} {w : World} (I : (Nat → Bool) → Act → World → Prop) (hm : P.follows .mixedOrders = true) (h : earlyB l = true) (h0 : I (fun j => decide (l.length ≤ j)) a w.drew)
    (hst : allSteps2 P l Q I l 0) (fin : ∀ d a w, I d a w → (∀ j, d j = true) → Q .normal a w) : (Code.region id l.toArray true).wp P Q a w := by
  refine wp_region_invB (fun d a w => I d a w ∧ closedB l d) hm h ⟨h0, ?_⟩ (allSteps_of (fun i o hi => by simpa using hi) hst) (fun d a w hI hd => fin d a w hI.1 hd)
  intro i o hi hd e he hb
  have := (List.getElem?_eq_some_iff.1 hi).1
  simp at hd
  omega

end
def mapE (f : Str → Str) (E : Env) : Env := E.map fun p => (f p.1, p.2)

/-- f keeps apart what W tells. -/
structure Ren (f : Str → Str) (W : Str → Prop) : Prop where
  nil : f [] = []
  wn : W []
  inj : ∀ x y, W x → W y → f x = f y → x = y
section
variable {f : Str → Str} {W : Str → Prop}
theorem Ren.iff (h : Ren f W) {x y : Str} (hx : W x) (hy : W y) : f x = f y ↔ x = y := ⟨h.inj x y hx hy, fun e => by rw [e]⟩
theorem Ren.none (h : Ren f W) {x : Str} (hx : W x) : f x = [] ↔ x = [] := by
  have := h.iff hx h.wn
  rwa [h.nil] at this
theorem Ren.beq (h : Ren f W) {x y : Str} (hx : W x) (hy : W y) : (f x == f y) = (x == y) := by
  rw [Bool.eq_iff_iff, beq_iff_eq, beq_iff_eq]; exact h.iff hx hy
theorem Ren.beq0 (h : Ren f W) {x : Str} (hx : W x) : (f x == []) = (x == []) := by
  rw [Bool.eq_iff_iff, beq_iff_eq, beq_iff_eq]; exact h.none hx
theorem ren_getE (h : Ren f W) : ∀ {E : Env} {v : Str}, (∀ p ∈ E, W p.1) → W v → getE (mapE f E) (f v) = getE E v
  | [], _, _, _ => rfl
  | p :: E, v, hE, hv => by
    unfold getE mapE
    rw [List.map_cons, List.find?_cons, List.find?_cons]
    simp only
    rw [h.beq (hE p (List.mem_cons_self ..)) hv]
    cases hp : p.1 == v
    · exact ren_getE h (E := E) (fun p hp => hE p (List.mem_cons_of_mem _ hp)) hv
    · rfl
theorem ren_kindE (h : Ren f W) {E : Env} {v : Str} (hE : ∀ p ∈ E, W p.1) (hv : W v) : kindE (mapE f E) (f v) = kindE E v := by
  unfold kindE; rw [ren_getE h hE hv]
theorem termT_in {E E' : Env} {t : Trm} {k : Int} (hE : ∀ p ∈ E, W p.1) (ht : W t.v) (h : termT E t k = some E') : ∀ p ∈ E', W p.1 := by
  rcases termT_ways E t k with ⟨_, _, h2⟩ | ⟨_, _, h2⟩ | ⟨_, _, h2⟩ | ⟨_, _, _, _, h2⟩ | ⟨_, _, h2⟩
  · rw [h2] at h; injection h with h; subst h; exact hE
  · rw [h2] at h; cases h
  · rw [h2] at h; injection h with h; subst h; exact hE
  · rw [h2] at h; cases h
  · rw [h2] at h; injection h with h; subst h
    intro p hp
    rcases List.mem_append.1 hp with hp | hp
    · exact hE p hp
    · rw [List.mem_singleton] at hp; subst hp; exact ht
theorem ren_termT (h : Ren f W) {E : Env} {t : Trm} {k : Int} (hE : ∀ p ∈ E, W p.1) (ht : W t.v) : termT (mapE f E) (mapT f t) k = (termT E t k).map (mapE f) := by
  unfold termT
  by_cases h0 : t.v = []
  · rw [if_pos h0, if_pos (show (mapT f t).v = [] from (h.none ht).2 h0)]
    show (if t.c.k = k then _ else _) = _
    by_cases h1 : t.c.k = k
    · rw [if_pos h1, if_pos h1]; rfl
    · rw [if_neg h1, if_neg h1]; rfl
  · rw [if_neg h0, if_neg (show ¬ (mapT f t).v = [] from fun e => h0 ((h.none ht).1 e))]
    rw [show getE (mapE f E) (mapT f t).v = getE E t.v from ren_getE h hE ht]
    cases getE E t.v with
    | none => simp [mapE, mapT]
    | some q =>
      by_cases hq : q = k
      · simp [hq]
      · simp [hq]
theorem ren_termsT (h : Ren f W) : ∀ {ts : List Trm} {ks : List Int} {E : Env}, (∀ p ∈ E, W p.1) → (∀ t ∈ ts, W t.v) → termsT (mapE f E) (ts.map (mapT f)) ks = (termsT E ts ks).map (mapE f) ∧ ∀ E', termsT E ts ks = some E' → ∀ p ∈ E', W p.1
  | [], ks, E, hE, _ => by
    have : ∀ E : Env, termsT E [] ks = some E := by intro E; cases ks <;> rfl
    rw [List.map_nil, this, this]
    exact ⟨rfl, fun E' h => by injection h with h; subst h; exact hE⟩
  | t :: ts, [], E, hE, _ => by
    refine ⟨rfl, fun E' h => ?_⟩
    have : termsT E (t :: ts) [] = some E := rfl
    rw [this] at h
    injection h with h; subst h; exact hE
  | t :: ts, k :: ks, E, hE, ht => by
    rw [List.map_cons, termsT, termsT, ren_termT h hE (ht t (List.mem_cons_self ..))]
    cases hm : termT E t k with
    | none => exact ⟨rfl, fun E' h => by cases h⟩
    | some F =>
      have hF := termT_in hE (ht t (List.mem_cons_self ..)) hm
      exact ren_termsT h (ts := ts) (ks := ks) (E := F) hF (fun t h => ht t (List.mem_cons_of_mem _ h))
theorem ren_atomT (h : Ren f W) {S : List Sch} {E : Env} {a : Atm} (hE : ∀ p ∈ E, W p.1) (ha : ∀ t ∈ a.ts, W t.v) : atomT S (mapE f E) (mapA f a) = ((atomT S E a).1, mapE f (atomT S E a).2) ∧ ∀ p ∈ (atomT S E a).2, W p.1 := by
  unfold atomT
  show (match findS S a.rel with | none => _ | some s => _) = _ ∧ _
  cases findS S a.rel with
  | none => exact ⟨rfl, fun p hp => by cases hp⟩
  | some s =>
    simp only [mapA, List.length_map]
    by_cases hl : a.ts.length ≠ s.kinds.length
    · rw [if_pos hl, if_pos hl]; exact ⟨rfl, fun p hp => by cases hp⟩
    · rw [if_neg hl, if_neg hl]
      obtain ⟨h1, h2⟩ := ren_termsT h (ks := s.kinds) hE ha
      rw [h1]
      cases hm : termsT E a.ts s.kinds with
      | none => exact ⟨rfl, fun p hp => by cases hp⟩
      | some F => exact ⟨rfl, h2 F hm⟩
theorem ren_inferT (h : Ren f W) {S : List Sch} : ∀ {l : List Atm} {E : Env}, (∀ p ∈ E, W p.1) → (∀ a ∈ l, ∀ t ∈ a.ts, W t.v) → inferT S (mapE f E) (l.map (mapA f)) = ((inferT S E l).1, mapE f (inferT S E l).2) ∧ ∀ p ∈ (inferT S E l).2, W p.1
  | [], E, hE, _ => ⟨rfl, hE⟩
  | a :: l, E, hE, hl => by
    obtain ⟨h1, h2⟩ := ren_atomT h (S := S) hE (hl a (List.mem_cons_self ..))
    rw [List.map_cons, inferT, inferT, h1]
    simp only
    by_cases h0 : (atomT S E a).1 = 0
    · rw [if_pos h0, if_pos h0]
      exact ren_inferT h h2 (fun a h => hl a (List.mem_cons_of_mem _ h))
    · rw [if_neg h0, if_neg h0]
      exact ⟨rfl, fun p hp => by cases hp⟩
theorem ren_guards (h : Ren f W) {a b : Atm} (ha : ∀ t ∈ a.ts, W t.v) (hb : ∀ t ∈ b.ts, W t.v) : guardsB (mapA f a) (mapA f b) = guardsB a b := by
  unfold guardsB mapA
  simp only
  congr 1
  rw [List.all_map]
  rw [Bool.eq_iff_iff, List.all_eq_true, List.all_eq_true]
  have key : ∀ t ∈ a.ts, ((fun t : Trm => t.v == [] || (b.ts.map (mapT f)).any fun u => u.v == t.v) ∘ mapT f) t = (t.v == [] || b.ts.any fun u => u.v == t.v) := by
    intro t ht
    simp only [Function.comp, List.any_map]
    show (f t.v == [] || _) = _
    rw [h.beq0 (ha t ht)]
    congr 1
    rw [Bool.eq_iff_iff, List.any_eq_true, List.any_eq_true]
    constructor
    · rintro ⟨u, hu, e⟩; exact ⟨u, hu, by rw [← h.beq (hb u hu) (ha t ht)]; exact e⟩
    · rintro ⟨u, hu, e⟩; exact ⟨u, hu, by rw [← h.beq (hb u hu) (ha t ht)] at e; exact e⟩
  constructor
  · intro g t ht; rw [← key t ht]; exact g t ht
  · intro g t ht; rw [key t ht]; exact g t ht
theorem findIdx_map {α β : Type} {p : β → Bool} {q : α → Bool} {g : α → β} : ∀ {l : List α}, (∀ a ∈ l, p (g a) = q a) → (l.map g).findIdx? p = l.findIdx? q
  | [], _ => rfl
  | a :: l, h => by
    rw [List.map_cons, List.findIdx?_cons, List.findIdx?_cons, h a (List.mem_cons_self ..), findIdx_map fun a ha => h a (List.mem_cons_of_mem _ ha)]
theorem ren_negE (h : Ren f W) {l : List Atm} {a : Atm} (hl : ∀ a ∈ l, ∀ t ∈ a.ts, W t.v) (ha : a ∈ l) : negE (l.map (mapA f)) (mapA f a) = negE l a := by
  unfold negE guardG
  rw [findIdx_map (q := guardsB a) fun b hb => ren_guards h (hl a ha) (hl b hb)]
  rfl
theorem firstE_map {α β : Type} {p : β → Int} {q : α → Int} {g : α → β} : ∀ {l : List α}, (∀ a ∈ l, p (g a) = q a) → firstE p (l.map g) = firstE q l
  | [], _ => rfl
  | a :: l, h => by
    rw [List.map_cons, firstE, firstE, h a (List.mem_cons_self ..), firstE_map fun a ha => h a (List.mem_cons_of_mem _ ha)]
end
/-- The names of a rule, and none. -/
def inR (r : Rul) (x : Str) : Prop := x = [] ∨ x ∈ varsL r
theorem inR_atom {r : Rul} {a : Atm} (ha : a ∈ r.atoms) : ∀ t ∈ a.ts, inR r t.v := fun t ht => by
  by_cases h : t.v = []
  · exact .inl h
  · exact .inr (vars_in.2 ⟨List.mem_append_left _ (List.mem_flatMap.2 ⟨a, ha, List.mem_map.2 ⟨t, ht, rfl⟩⟩), h⟩)
theorem inR_cond {r : Rul} {c : Cnd} (hc : c ∈ r.conds) : inR r c.v := by
  by_cases h : c.v = []
  · exact .inl h
  · exact .inr (vars_in.2 ⟨List.mem_append_right _ (List.mem_map.2 ⟨c, hc, rfl⟩), h⟩)
section
variable {f : Str → Str} {S : List Sch}
theorem ren_rule {r : Rul} (h : Ren f (inR r)) : inferT S [] (mapR f r).atoms = ((inferT S [] r.atoms).1, mapE f (inferT S [] r.atoms).2) ∧ ∀ p ∈ (inferT S [] r.atoms).2, inR r p.1 :=
  ren_inferT h (E := []) (fun p hp => by cases hp) (fun a ha => inR_atom ha)
theorem ren_verify {r : Rul} (h : Ren f (inR r)) {E : Env} (hE : ∀ p ∈ E, inR r p.1) : verifyT (mapR f r) (mapE f E) = verifyT r E := by
  unfold verifyT mapR
  simp only
  rw [firstE_map (q := condT E) fun c hc => by
    unfold condT mapC
    simp only
    rw [ren_kindE h hE (inR_cond hc)]]
  rw [firstE_map (q := negE r.atoms) fun a ha => ren_negE h (fun a ha => inR_atom ha) ha]
theorem ren_infers : ∀ {l : List Rul}, (∀ r ∈ l, Ren f (inR r)) → inferAll S (l.map (mapR f)) = ((inferAll S l).1, (inferAll S l).2.map (mapE f))
  | [], _ => rfl
  | r :: l, h => by
    rw [List.map_cons, inferAll, inferAll, ren_infers fun r hr => h r (List.mem_cons_of_mem _ hr), (ren_rule (h r (List.mem_cons_self ..))).1]
    simp only
    by_cases h0 : (inferT S [] r.atoms).1 = 0
    · rw [if_pos h0, if_pos h0]
      by_cases h1 : (inferAll S l).1 = 0
      · rw [if_pos h1, if_pos h1]; rfl
      · rw [if_neg h1, if_neg h1]; rfl
    · rw [if_neg h0, if_neg h0]; rfl
theorem infers_in : ∀ {l : List Rul}, ∀ E ∈ (inferAll S l).2, ∃ r ∈ l, E = (inferT S [] r.atoms).2
  | [], E, h => by cases h
  | r :: l, E, h => by
    rw [inferAll] at h
    by_cases h0 : (inferT S [] r.atoms).1 = 0
    · rw [if_pos h0] at h
      by_cases h1 : (inferAll S l).1 = 0
      · rw [if_pos h1] at h
        rcases List.mem_cons.1 h with rfl | h
        · exact ⟨r, List.mem_cons_self .., rfl⟩
        · obtain ⟨r', h1, h2⟩ := infers_in E h
          exact ⟨r', List.mem_cons_of_mem _ h1, h2⟩
      · rw [if_neg h1] at h; cases h
    · rw [if_neg h0] at h; cases h
theorem ren_verifies : ∀ {l : List Rul}, (∀ r ∈ l, Ren f (inR r)) → verifyAll (l.map (mapR f)) ((inferAll S l).2.map (mapE f)) = verifyAll l (inferAll S l).2
  | [], _ => rfl
  | r :: l, h => by
    rw [inferAll]
    by_cases h0 : (inferT S [] r.atoms).1 = 0
    · rw [if_pos h0]
      by_cases h1 : (inferAll S l).1 = 0
      · rw [if_pos h1]
        simp only [List.map_cons]
        rw [verifyAll, verifyAll, ren_verify (h r (List.mem_cons_self ..)) (ren_rule (h r (List.mem_cons_self ..))).2, ren_verifies fun r hr => h r (List.mem_cons_of_mem _ hr)]
      · rw [if_neg h1]; rfl
    · rw [if_neg h0]; rfl
theorem foldl_ren {W : Str → Prop} (h : Ren f W) : ∀ {l acc : List Str}, (∀ x ∈ l, W x) → (∀ x ∈ acc, W x) → (l.map f).foldl addN (acc.map f) = (l.foldl addN acc).map f
  | [], _, _, _ => rfl
  | v :: l, acc, hl, ha => by
    have hv := hl v (List.mem_cons_self ..)
    have key : addN (acc.map f) (f v) = (addN acc v).map f := by
      unfold addN
      have h1 : (f v = [] ∨ f v ∈ acc.map f) ↔ (v = [] ∨ v ∈ acc) := by
        rw [h.none hv, List.mem_map]
        constructor
        · rintro (e | ⟨x, hx, e⟩)
          · exact .inl e
          · exact .inr (by rw [← (h.iff (ha x hx) hv).1 e]; exact hx)
        · rintro (e | e)
          · exact .inl e
          · exact .inr ⟨v, e, rfl⟩
      by_cases h2 : v = [] ∨ v ∈ acc
      · rw [if_pos h2, if_pos (h1.2 h2)]
      · rw [if_neg h2, if_neg (fun e => h2 (h1.1 e)), List.map_append]; rfl
    rw [List.map_cons, List.foldl_cons, List.foldl_cons, key]
    refine foldl_ren h (fun x hx => hl x (List.mem_cons_of_mem _ hx)) (fun x hx => ?_)
    rcases addN_in.1 hx with hx | ⟨rfl, _⟩
    · exact ha x hx
    · exact hv
theorem ren_vars {r : Rul} (h : Ren f (inR r)) : varsL (mapR f r) = (varsL r).map f := by
  have he : allVs (mapR f r) = (allVs r).map f := by
    unfold allVs mapR atomVs mapA mapC
    simp [List.flatMap_map, List.map_flatMap, Function.comp_def, mapT]
  unfold varsL
  rw [he]
  exact foldl_ren h (acc := []) (fun x hx => by
    by_cases e : x = []
    · exact .inl e
    · exact .inr (vars_in.2 ⟨hx, e⟩)) (fun x hx => by cases hx)
theorem zip_maps {α β α' β' γ δ : Type} {g : α → α'} {k : β → β'} {F : α' × β' → γ} {G : α × β → δ} {m : δ → γ} : ∀ {l : List α} {l' : List β}, (∀ p ∈ l.zip l', F (g p.1, k p.2) = m (G p)) → ((l.map g).zip (l'.map k)).map F = ((l.zip l').map G).map m
  | [], _, _ => by simp
  | _ :: _, [], _ => by simp
  | a :: l, b :: l', h => by
    simp only [List.map_cons, List.zip_cons_cons]
    rw [h (a, b) (by simp), zip_maps fun p hp => h p (by simp only [List.zip_cons_cons]; exact List.mem_cons_of_mem _ hp)]
theorem zip_infers : ∀ {l : List Rul}, ∀ p ∈ l.zip (inferAll S l).2, p.2 = (inferT S [] p.1.atoms).2
  | [], p, h => by simp at h
  | r :: l, p, h => by
    rw [inferAll] at h
    by_cases h0 : (inferT S [] r.atoms).1 = 0
    · rw [if_pos h0] at h
      by_cases h1 : (inferAll S l).1 = 0
      · rw [if_pos h1] at h
        simp only [List.zip_cons_cons] at h
        rcases List.mem_cons.1 h with rfl | h
        · rfl
        · exact zip_infers p h
      · rw [if_neg h1] at h; simp at h
    · rw [if_neg h0] at h; simp at h
/-- What the query's head asks stands in every rule. -/
theorem head_in {q : Qry} (h : checkQ q = 0) {v : Str} (hv : v ∈ needL q) {r : Rul} (hr : r ∈ q.rules) : inR r v := by
  have h5 := (checkQ_iff.1 h).2.2.2.2.1
  have h6 := firstE_zero h5 r hr
  unfold ruleE at h6
  by_cases hi : itemsE r = 0
  · rw [if_pos hi] at h6
    by_cases hm : 8 < (varsL r).length
    · rw [if_pos hm] at h6; exact absurd h6 (by decide)
    · rw [if_neg hm] at h6
      by_cases hb : ((needL q ++ varsL r).all (boundB r)) = true
      · have h7 := List.all_eq_true.1 hb v (List.mem_append_left _ hv)
        unfold boundB at h7
        rw [List.any_eq_true] at h7
        obtain ⟨a, ha, h8⟩ := h7
        rw [Bool.and_eq_true, List.any_eq_true] at h8
        obtain ⟨t, ht, h9⟩ := h8.2
        rw [beq_iff_eq] at h9
        subst h9
        exact inR_atom ha t ht
      · rw [if_neg hb] at h6; exact absurd h6 (by decide)
  · rw [if_neg hi] at h6; exact absurd h6 hi
/-- The law. -/
theorem checkT_ren {q : Qry} (h0 : checkQ q = 0) (h1 : checkQ (mapQ f q) = 0) (hr : ∀ r ∈ q.rules, Ren f (inR r)) : checkT (mapQ f q) S = ((checkT q S).1, ⟨(checkT q S).2.head, (checkT q S).2.rules.map (mapE f)⟩) := by
  have hi := ren_infers (S := S) hr
  have hv := ren_verifies (S := S) hr
  have hkind : ∀ E ∈ (inferAll S q.rules).2, ∀ v, (v = [] ∨ v ∈ needL q) → kindE (mapE f E) (f v) = kindE E v := by
    intro E hE v hv
    obtain ⟨r, hr1, rfl⟩ := infers_in E hE
    refine ren_kindE (hr r hr1) (ren_rule (hr r hr1)).2 ?_
    rcases hv with rfl | hv
    · exact .inl rfl
    · exact head_in h0 hv hr1
  have hk0 : ∀ v, (v = [] ∨ v ∈ needL q) → kindE (((inferAll S q.rules).2.map (mapE f)).headD []) (f v) = kindE ((inferAll S q.rules).2.headD []) v := by
    intro v hv
    cases he : (inferAll S q.rules).2 with
    | nil => rfl
    | cons E l => exact hkind E (by rw [he]; exact List.mem_cons_self ..) v hv
  have hhd : ∀ v ∈ q.head, v = [] ∨ v ∈ needL q := fun v hv => .inr (List.mem_append_left _ hv)
  have hag : q.aggVar = [] ∨ q.aggVar ∈ needL q := by
    by_cases h : q.aggVar = []
    · exact .inl h
    · exact .inr (by unfold needL; rw [if_neg h]; simp)
  have hH : headT (mapQ f q) ((inferAll S q.rules).2.map (mapE f)) = headT q (inferAll S q.rules).2 := by
    unfold headT
    rw [List.all_map, Bool.eq_iff_iff, List.all_eq_true, List.all_eq_true]
    have key : ∀ E ∈ (inferAll S q.rules).2, ((fun E => (mapQ f q).head.all fun v => kindE E v == kindE (((inferAll S q.rules).2.map (mapE f)).headD []) v) ∘ mapE f) E = q.head.all fun v => kindE E v == kindE ((inferAll S q.rules).2.headD []) v := by
      intro E hE
      simp only [Function.comp, mapQ, List.all_map]
      rw [Bool.eq_iff_iff, List.all_eq_true, List.all_eq_true]
      constructor
      · intro g v hv
        have := g v hv
        simp only [Function.comp] at this
        rwa [hkind E hE v (hhd v hv), hk0 v (hhd v hv)] at this
      · intro g v hv
        simp only [Function.comp]
        rw [hkind E hE v (hhd v hv), hk0 v (hhd v hv)]
        exact g v hv
    constructor
    · intro g E hE; rw [← key E hE]; exact g E hE
    · intro g E hE; rw [key E hE]; exact g E hE
  have hT : typesOf (mapQ f q) ((inferAll S q.rules).2.map (mapE f)) = ⟨(typesOf q (inferAll S q.rules).2).head, (typesOf q (inferAll S q.rules).2).rules.map (mapE f)⟩ := by
    unfold typesOf
    simp only [mapQ, List.map_map]
    congr 1
    · refine List.map_congr_left fun v hv => ?_
      simp only [Function.comp]
      exact hk0 v (hhd v hv)
    · rw [← List.map_map]
      refine zip_maps fun p hp => ?_
      have hrm := (List.of_mem_zip hp).1
      have hp2 := zip_infers p hp
      simp only
      rw [ren_vars (hr p.1 hrm), List.map_map]
      unfold mapE
      rw [List.map_map]
      refine List.map_congr_left fun v hv => ?_
      simp only [Function.comp]
      rw [hp2]
      have := ren_kindE (hr p.1 hrm) (ren_rule (S := S) (hr p.1 hrm)).2 (v := v) (.inr hv)
      unfold mapE at this
      rw [this]
  have hl : checkT (mapQ f q) S = (if (inferAll S q.rules).1 ≠ 0 then ((inferAll S q.rules).1, ⟨[], []⟩)
      else if verifyAll q.rules (inferAll S q.rules).2 ≠ 0 then (verifyAll q.rules (inferAll S q.rules).2, ⟨[], []⟩)
      else if headT q (inferAll S q.rules).2 = false then (5, ⟨[], []⟩)
      else if q.agg = 2 ∧ kindE ((inferAll S q.rules).2.headD []) q.aggVar ≠ 1 then (5, ⟨[], []⟩)
      else (0, ⟨(typesOf q (inferAll S q.rules).2).head, (typesOf q (inferAll S q.rules).2).rules.map (mapE f)⟩)) := by
    unfold checkT
    rw [if_neg (by rw [h1]; simp)]
    rw [show (mapQ f q).rules = q.rules.map (mapR f) from rfl, hi]
    simp only
    rw [hv, hH, hT]
    have e4 : kindE (((inferAll S q.rules).2.map (mapE f)).headD []) (mapQ f q).aggVar = kindE ((inferAll S q.rules).2.headD []) q.aggVar := hk0 _ hag
    rw [e4]
    rfl
  have hr' : checkT q S = (if (inferAll S q.rules).1 ≠ 0 then ((inferAll S q.rules).1, ⟨[], []⟩)
      else if verifyAll q.rules (inferAll S q.rules).2 ≠ 0 then (verifyAll q.rules (inferAll S q.rules).2, ⟨[], []⟩)
      else if headT q (inferAll S q.rules).2 = false then (5, ⟨[], []⟩)
      else if q.agg = 2 ∧ kindE ((inferAll S q.rules).2.headD []) q.aggVar ≠ 1 then (5, ⟨[], []⟩)
      else (0, typesOf q (inferAll S q.rules).2)) := by
    unfold checkT
    rw [if_neg (by rw [h0]; simp)]
  rw [hl, hr']
  by_cases c1 : (inferAll S q.rules).1 ≠ 0
  · simp only [if_pos c1, List.map_nil]
  simp only [if_neg c1]
  by_cases c2 : verifyAll q.rules (inferAll S q.rules).2 ≠ 0
  · simp only [if_pos c2, List.map_nil]
  simp only [if_neg c2]
  by_cases c3 : headT q (inferAll S q.rules).2 = false
  · simp only [if_pos c3, List.map_nil]
  simp only [if_neg c3]
  by_cases c4 : q.agg = 2 ∧ kindE ((inferAll S q.rules).2.headD []) q.aggVar ≠ 1
  · simp only [if_pos c4, List.map_nil]
  · simp only [if_neg c4]
/-- A renaming that check lets by leaves no name empty. -/
theorem ren_some {q : Qry} (h0 : checkQ q = 0) (h1 : checkQ (mapQ f q) = 0) {r : Rul} (hr : r ∈ q.rules) {x : Str} (hx : x ∈ varsL r) : f x ≠ [] := by
  intro e
  have key : ∀ {q : Qry} {r : Rul}, checkQ q = 0 → r ∈ q.rules → (∀ a ∈ r.atoms, atomE a = 0) ∧ ∀ c ∈ r.conds, condE c = 0 := by
    intro q r h hr
    have h6 := firstE_zero (checkQ_iff.1 h).2.2.2.2.1 r hr
    unfold ruleE at h6
    by_cases hi : itemsE r = 0
    · unfold itemsE at hi
      by_cases g0 : r.atoms = []
      · rw [if_pos g0] at hi; exact absurd hi (by decide)
      rw [if_neg g0] at hi
      by_cases g1 : 8 < r.atoms.length ∨ 8 < r.conds.length
      · rw [if_pos g1] at hi; exact absurd hi (by decide)
      rw [if_neg g1] at hi
      by_cases g2 : firstE atomE r.atoms = 0
      · rw [if_pos g2] at hi
        exact ⟨firstE_zero g2, firstE_zero hi⟩
      · rw [if_neg g2] at hi; exact absurd hi g2
    · rw [if_neg hi] at h6; exact absurd h6 hi
  have k0 := key h0 hr
  have k1 := key (q := mapQ f q) (r := mapR f r) h1 (List.mem_map.2 ⟨r, hr, rfl⟩)
  obtain ⟨hx1, hx2⟩ := vars_in.1 hx
  have hts : ∀ {a : Atm}, atomE a = 0 → ∀ t ∈ a.ts, termE t = 0 := by
    intro a h
    unfold atomE at h
    split at h
    · exact absurd h (by decide)
    · split at h
      · exact absurd h (by decide)
      · exact firstE_zero h
  rcases List.mem_append.1 hx1 with hx1 | hx1
  · obtain ⟨a, ha, hx1⟩ := List.mem_flatMap.1 hx1
    obtain ⟨t, ht, rfl⟩ := List.mem_map.1 hx1
    have t0 := hts (k0.1 a ha) t ht
    have t1 := hts (k1.1 (mapA f a) (List.mem_map.2 ⟨a, ha, rfl⟩)) (mapT f t) (List.mem_map.2 ⟨t, ht, rfl⟩)
    unfold termE at t0 t1
    rw [if_neg hx2] at t0
    rw [if_pos (show (mapT f t).v = [] from e)] at t1
    split at t0
    · exact absurd t0 (by decide)
    · split at t0
      · rename_i hz
        have hval : t.c.valid = true := by
          by_cases hv : (mapT f t).c.valid = true
          · exact hv
          · rw [if_neg hv] at t1; exact absurd t1 (by decide)
        unfold V.valid at hval
        rw [hz.1] at hval
        simp at hval
      · exact absurd t0 (by decide)
  · obtain ⟨c, hc, rfl⟩ := List.mem_map.1 hx1
    have t1 := k1.2 (mapC f c) (List.mem_map.2 ⟨c, hc, rfl⟩)
    unfold condE at t1
    rw [show (mapC f c).v = [] from e] at t1
    rw [if_pos (by decide)] at t1
    exact absurd t1 (by decide)
end
theorem guardVar : Try.prog.eqGuardType Try.prog.depth 65 = false := by kernel_rfl
theorem heldVar : Try.prog.stoodInHeld 65 = false := by kernel_rfl
theorem structVar : Try.prog.underlying 65 = some (.struct (Try.prog.fieldsOf 65)) := by kernel_rfl
theorem eq_var (s : ByteArray) (k : Int) (w : World) : (Op.equalIn 10000 65 (.agg #[.string s, .int .i64 k]) (.agg #[.string s, .int .i64 k])).run Try.prog w = .ok true w := by
  rw [run_equalIn_agg w 9999 _ _ _ structVar heldVar]
  simp [go_sem, Try.underlying65, Try.underlying3, Try.underlying9]
theorem nodup_map_inj {f : Str → Str} {l : List Str} (h : (l.map f).Nodup) {x y : Str} (hx : x ∈ l) (hy : y ∈ l) (e : f x = f y) : x = y := by
  obtain ⟨i, hi, rfl⟩ := List.getElem_of_mem hx
  obtain ⟨j, hj, rfl⟩ := List.getElem_of_mem hy
  have h1 := List.nodup_iff_pairwise_ne.1 h
  rw [List.pairwise_iff_getElem] at h1
  rcases Nat.lt_trichotomy i j with h2 | h2 | h2
  · exact absurd (by rw [List.getElem_map, List.getElem_map]; exact e) (h1 i j (by simpa using hi) (by simpa using hj) h2)
  · subst h2; rfl
  · exact absurd (by rw [List.getElem_map, List.getElem_map]; exact e.symm) (h1 j i (by simpa using hj) (by simpa using hi) h2)
theorem ren_of {q : Qry} {fr tos : List Str} (h : renE q fr tos = 0) : ∀ r ∈ q.rules, Ren (renF (zipF fr tos)) (inR r) := by
  obtain ⟨h1, _, _, hn, h2⟩ := renE_zero h
  intro r hr
  have hnil : renF (zipF fr tos) [] = [] := by unfold renF; rw [if_pos rfl]
  refine ⟨hnil, .inl rfl, fun x y hx hy e => ?_⟩
  rcases hx with rfl | hx
  · rcases hy with rfl | hy
    · rfl
    · exact absurd (e.symm.trans hnil) (ren_some h1 h2 hr hy)
  · rcases hy with rfl | hy
    · exact absurd (e.trans hnil) (ren_some h1 h2 hr hx)
    · exact nodup_map_inj (hn r hr) hx hy e
theorem types_ne (q : Qry) (S : List Sch) : ∀ l ∈ (checkT q S).2.rules, ∀ p ∈ l, p.1 ≠ [] := by
  have h0 : ∀ l ∈ (⟨[], []⟩ : Typ).rules, ∀ p ∈ l, p.1 ≠ [] := fun l hl => by cases hl
  unfold checkT
  repeat' split
  all_goals first | exact h0 | skip
  intro l hl p hp
  unfold typesOf at hl
  obtain ⟨⟨r, E⟩, _, rfl⟩ := List.mem_map.1 hl
  obtain ⟨v, hv, rfl⟩ := List.mem_map.1 hp
  exact (vars_in.1 hv).2
theorem swap_at (n0 n1 v : Str) (hv : v ≠ []) : renF (zipF [n0, n1] [n1, n0]) v = if v = n0 then n1 else if v = n1 then n0 else v := by
  unfold renF zipF
  rw [if_neg hv]
  by_cases h0 : v = n0
  · subst h0; simp
  · rw [if_neg h0]
    have b0 : (n0 == v) = false := by simpa using fun e => h0 e.symm
    by_cases h1 : v = n1
    · subst h1; simp [b0]
    · rw [if_neg h1]
      have b1 : (n1 == v) = false := by simpa using fun e => h1 e.symm
      simp [b0, b1]
/-- What Rename's result holds, whatever becomes of the blocks outside e0 .. e1. -/
def RnP (q : Qry) (er : Int) (cells : Array Value) (e0 e1 : Nat) (w : World) : Prop := (er ≠ 0 ∧ cells = #[.slice none 0 0, .int .i64 0, .string ⟨#[]⟩, .slice none 0 0, .slice none 0 0]) ∨ (er = 0 ∧ ∃ A R O ch cr co, .agg cells = qryV q A R O ch cr co ∧ ∀ w2, (∀ b, e0 ≤ b → b < e1 → w2.heap[b]? = w.heap[b]?) → QryIn w2 q A R O ch cr co)
def RnF (q : Qry) (er : Int) (x : Value) (e0 e1 : Nat) (w : World) : Prop := e0 ≤ e1 ∧ e1 ≤ w.heap.size ∧ ∃ cells, x = .tuple #[.agg cells, .int .i64 er] ∧ cells.size = 5 ∧ cells.toList.all (·.oneCell') = true ∧ RnP q er cells e0 e1 w
theorem RnF.on {q : Qry} {er : Int} {x : Value} {e0 e1 : Nat} {w w' : World} (h : RnF q er x e0 e1 w) (hs : w.heap.size ≤ w'.heap.size) (hb : ∀ b, e0 ≤ b → b < e1 → w'.heap[b]? = w.heap[b]?) : RnF q er x e0 e1 w' := by
  obtain ⟨a, b, c, h1, h2, h3, h4⟩ := h
  refine ⟨a, by omega, c, h1, h2, h3, ?_⟩
  rcases h4 with h | ⟨h, A, R, O, ch, cr, co, h1, h2⟩
  · exact .inl h
  · exact .inr ⟨h, A, R, O, ch, cr, co, h1, fun w2 ho => h2 w2 (fun b x y => (ho b x y).trans (hb b x y))⟩
theorem RnF.below {q : Qry} {er : Int} {x : Value} {e0 e1 : Nat} {w w' : World} (h : RnF q er x e0 e1 w) (hb : Below w.heap.size w w') : RnF q er x e0 e1 w' := h.on hb.size (fun b _ h2 => hb.block b (by have := h.2.1; omega))
theorem RetRn.f {w w' : World} {q : Qry} {er : Int} {e : Ending} (h : RetRn w q er e w') : ∃ x, e = .returned x ∧ RnF q er x w.heap.size w'.heap.size w' ∧ Below w.heap.size w w' := by
  obtain ⟨v, rfl, h1, h2⟩ := h
  refine ⟨_, rfl, ⟨h2.size, Nat.le_refl _, ?_⟩, h2⟩
  rcases h1 with ⟨h0, rfl⟩ | ⟨h0, A, R, O, ch, cr, co, rfl, hq⟩
  · exact ⟨_, rfl, rfl, rfl, .inl ⟨h0, rfl⟩⟩
  · exact ⟨_, rfl, rfl, rfl, .inr ⟨h0, A, R, O, ch, cr, co, rfl, fun w2 ho => hq w2 ho⟩⟩
theorem rup {d : Nat → Bool} {i j : Nat} (hne : (j == i) = false) (h : upd d i j = true) : d j = true := by
  have : j ≠ i := by simpa using hne
  unfold upd at h
  rwa [if_neg this] at h
theorem no7x {b : Bool} (h : b = true) (h2 : b = false) : False := by rw [h] at h2; cases h2
theorem nms2 {w : World} {g : Nat} {a b : Str} {X Y : ByteArray} (h0 : w.cell? ⟨g, 0, none⟩ = some (.string X)) (h1 : w.cell? ⟨g, 1, none⟩ = some (.string Y)) (ea : (⟨a.toArray⟩ : ByteArray) = X) (eb : (⟨b.toArray⟩ : ByteArray) = Y) : NmsAt w (some ⟨g, 0, none⟩) [a, b] := by
  subst ea eb
  exact fun _ => ⟨g, 0, rfl, fun i hi => by
    match i, hi with
    | 0, _ => exact h0
    | 1, _ => exact h1⟩
def tupV (x : Value) (i : Nat) : Value := match x with | .tuple vs => (vs[i]?).getD undef | _ => undef

/-- What the three operations that belong together have come to. -/
def RegI (P : Qry) (er : Int) (d : Nat → Bool) (wa w9 : World) (x7 x41 : Value) : Prop := ∃ e0x e1x gX : Nat, Hid (d 7 = true → d 11 = true → gX < e0x ∨ e1x ≤ gX) ∧ Hid (d 7 = true → RnF P er x41 e0x e1x w9) ∧
  Hid (d 11 = true → x7 = .pointer (some ⟨gX, 0, none⟩) ∧ wa.heap.size ≤ gX ∧ gX < w9.heap.size ∧ (d 12 = false → w9.heap[gX]? = some (.cells #[.slice none 0 0, .int .i64 0, .string ⟨#[]⟩, .slice none 0 0, .slice none 0 0] 26 (0, 0)))) ∧
  Hid (d 12 = true → ∃ cl, tupV x41 0 = .agg cl ∧ w9.heap[gX]? = some (.cells cl 26 (0, 0)))
theorem RegI.mk {P : Qry} {er : Int} {d : Nat → Bool} {wa w9 : World} {x7 x41 : Value} (e0x e1x gX : Nat) (h1 : Hid (d 7 = true → d 11 = true → gX < e0x ∨ e1x ≤ gX)) (h2 : Hid (d 7 = true → RnF P er x41 e0x e1x w9))
    (h3 : Hid (d 11 = true → x7 = .pointer (some ⟨gX, 0, none⟩) ∧ wa.heap.size ≤ gX ∧ gX < w9.heap.size ∧ (d 12 = false → w9.heap[gX]? = some (.cells #[.slice none 0 0, .int .i64 0, .string ⟨#[]⟩, .slice none 0 0, .slice none 0 0] 26 (0, 0)))))
    (h4 : Hid (d 12 = true → ∃ cl, tupV x41 0 = .agg cl ∧ w9.heap[gX]? = some (.cells cl 26 (0, 0)))) : RegI P er d wa w9 x7 x41 := ⟨e0x, e1x, gX, h1, h2, h3, h4⟩

set_option maxRecDepth 100000 in
set_option maxHeartbeats 32000000 in
theorem law_renames (AW : ∀ W : World, Hid (Calls Try.prog 12 #[] W fun e w' => e = .returned (.bool true) ∧ Below W.heap.size W w'))
    (q : Qry) (S : List Sch) (n0 n1 : Str) (A R O B : Option Addr) (ch cr co cs : Nat) (w : World) (hq : QryIn w q A R O ch cr co) (hs : SchsAt w B S) (hwf : q.wf) (hws : ∀ s ∈ S, s.wf) (hms : S.length ≤ 9223372036854775807) (hn0 : n0.length ≤ 9223372036854775807) (hn1 : n1.length ≤ 9223372036854775807) :
    Calls Try.prog 9 #[qryV q A R O ch cr co, .slice B S.length cs, .agg #[.string ⟨n0.toArray⟩, .string ⟨n1.toArray⟩]] w fun e w' => e = .returned (.bool true) ∧ Below w.heap.size w w' := by
  have HQ := hid hq
  have HS := hid hs
  have HWF := hid hwf
  have HWS := hid hws
  obtain ⟨⟨e0, th, tr⟩, hx⟩ : ∃ x, checkT q S = x := ⟨_, rfl⟩
  obtain ⟨er, her⟩ : ∃ x, renE q [n0, n1] [n1, n0] = x := ⟨_, rfl⟩
  obtain ⟨bd, hbd⟩ : ∃ x, badB S = x := ⟨_, rfl⟩
  have HX := hid hx
  have HER := hid her
  have C1 := fun W h => hid (law_great q A R O ch cr co W h)
  have C2 := fun W h => hid (law_bad S B cs W h hms hbd)
  have C3 := fun W h1 h2 => hid (chk_check q S A R O B ch cr co cs W h1 h2 hwf hws hms hx)
  have CR := fun (g1 g2 : Nat) W h1 h2 h3 => hid ((ast_rename q [n0, n1] [n1, n0] A R O (some ⟨g1, 0, none⟩) (some ⟨g2, 0, none⟩) ch cr co 2 2 W h1 hwf h2 h3 (by simp; omega) (by simp; omega) (by simp) (by simp) her).mono fun e w' h => h.f)
  obtain ⟨Y, hY, _, _⟩ := nm q.aggVar
  obtain ⟨N0, hN0, hN0d, hN0l⟩ := nm n0
  obtain ⟨N1, hN1, hN1d, hN1l⟩ := nm n1
  have HN0 := hid (⟨hN0, hN0d, hN0l⟩ : (⟨n0.toArray⟩ : ByteArray) = N0 ∧ N0.data.toList = n0 ∧ N0.toList = n0)
  have HN1 := hid (⟨hN1, hN1d, hN1l⟩ : (⟨n1.toArray⟩ : ByteArray) = N1 ∧ N1.data.toList = n1 ∧ N1.toList = n1)
  have HY := hid hY
  have HL01 := hid (⟨hn0, hn1⟩ : n0.length ≤ 9223372036854775807 ∧ n1.length ≤ 9223372036854775807)
  unfold qryV at C1 C3 CR ⊢
  simp only [hY] at C1 C3 CR ⊢
  rw [hN0, hN1]
  obtain ⟨z, hz⟩ : ∃ z, wrap64 ((N0.size : Int) + (N1.size : Int)) = z := ⟨_, rfl⟩
  clear hx hbd her hs hwf hws hq hY hN0 hN0d hN0l hN1 hN1d hN1l hn0 hn1
  obtain ⟨hd, ga, av, rs, os⟩ := q
  simp only at *
  have HB0 : Hid (QIn w (.slice A hd.length ch) (.int .i64 ga) (.string Y) (.slice R rs.length cr) (.slice O os.length co) 26 (.cells #[.string N0, .string N1] 70)  ((w.alloc (.cells #[.slice A hd.length ch, .int .i64 ga, .string Y, .slice R rs.length cr, .slice O os.length co] 26)).alloc (.cells #[.string N0, .string N1] 70))) := hid QIn.refl
  go_enter Try.func9, Try.ntmps9
  go_upto_region 1 with fail
  generalize ((w.alloc (.cells #[.slice A hd.length ch, .int .i64 ga, .string Y, .slice R rs.length cr, .slice O os.length co] 26)).alloc (.cells #[.string N0, .string N1] 70)) = wa at *
  obtain ⟨q0, q1, q2, q3, q4, qz, qlt, hbel⟩ := HB0.out.cells
  go_wp2_with fail
  refine (C1 _ (HQ.out.below hbel)).out.mono ?_
  rintro e w2 ⟨hsb, b2⟩
  obtain ⟨bg, rfl⟩ := hsb
  have HB2 := hid (HB0.out.on b2 HB0.out.size)
  clear C1 b2 HB0 q0 q1 q2 q3 q4 qz qlt hbel
  obtain ⟨q0, q1, q2, q3, q4, qz, qlt, hbel⟩ := HB2.out.cells
  cases bg with
  | true =>
    go_wp2_with fail
    refine (AW _).out.mono ?_
    rintro e w9 ⟨rfl, b9⟩
    have hb9 := hbel.trans (b9.mono hbel.size)
    clear b9
    go_wp2
    go_ret
    exact ⟨rfl, hb9⟩
  | false =>
    go_wp2_with fail
    refine (C2 _ (HS.out.below hbel)).out.mono ?_
    rintro e w3 ⟨rfl, b3⟩
    have HB3 := hid (HB2.out.on b3 HB2.out.size)
    clear C2 b3 HB2 q0 q1 q2 q3 q4 qz qlt hbel
    obtain ⟨q0, q1, q2, q3, q4, qz, qlt, hbel⟩ := HB3.out.cells
    obtain ⟨a0, a1⟩ := rcell2 qz
    cases bd with
    | true =>
      go_wp2_with fail
      refine (AW _).out.mono ?_
      rintro e w9 ⟨rfl, b9⟩
      have hb9 := hbel.trans (b9.mono hbel.size)
      clear b9
      go_wp2
      go_ret
      exact ⟨rfl, hb9⟩
    | false =>
      by_cases hzz : z > 100
      · have bz : (decide (z > 100)) = true := decide_eq_true hzz
        go_wp2_with fail
        refine (AW _).out.mono ?_
        rintro e w9 ⟨rfl, b9⟩
        have hb9 := hbel.trans (b9.mono hbel.size)
        clear b9
        go_wp2
        go_ret
        exact ⟨rfl, hb9⟩
      · have bz : (decide (z > 100)) = false := decide_eq_false hzz
        go_upto_region 3 with fail
        have Q0 := hid q0
        have Q1 := hid q1
        have Q2 := hid q2
        have Q3 := hid q3
        have Q4 := hid q4
        have QL := hid qlt
        have A0 := hid a0
        have A1 := hid a1
        have HBE := hid hbel
        simp only [hz]
        clear q0 q1 q2 q3 q4 qz qlt hbel a0 a1 bz hz hzz
        rename World => wa
        refine wp_region_inv3 (fun d ac w9 => ∃ (x34 x35 x36 x37 x38 x39 x40 x41 x33 x42 x43 x7 x8 : Value), ac = { tmps := List.toArray ((Value.agg #[Value.slice A hd.length ch, Value.int IntKind.i64 ga, Value.string Y, Value.slice R rs.length cr, Value.slice O os.length co]) :: (Value.slice B S.length cs) :: (Value.agg #[Value.string N0, Value.string N1]) :: (Value.pointer (some { block := w.heap.size, off := 0 })) :: undef :: (Value.pointer (some { block := w.heap.size + 1, off := 0 })) :: (Value.bool false) :: x7 :: x8 :: undef :: undef :: undef :: undef :: undef :: undef :: undef :: (Value.agg #[Value.slice A hd.length ch, Value.int IntKind.i64 ga, Value.string Y, Value.slice R rs.length cr, Value.slice O os.length co]) :: (Value.bool false) :: (Value.bool false) :: (Value.slice B S.length cs) :: (Value.bool false) :: (Value.bool false) :: (Value.bool false) :: (Value.pointer (some { block := w.heap.size + 1, off := 0 })) :: (Value.string N0) :: (Value.int IntKind.i64 ↑N0.size) :: (Value.pointer (some { block := w.heap.size + 1, off := 1 })) :: (Value.string N1) :: (Value.int IntKind.i64 ↑N1.size) :: (Value.int IntKind.i64 z) :: (Value.bool false) :: (Value.bool false) :: undef :: x33 :: x34 :: x35 :: x36 :: x37 :: x38 :: x39 :: x40 :: x41 :: x42 :: x43 :: undef :: undef :: undef :: undef :: undef :: undef :: undef :: undef :: undef :: undef :: undef :: undef :: undef :: undef :: undef :: undef :: undef :: undef :: undef :: undef :: undef :: undef :: undef :: undef :: undef :: undef :: undef :: undef :: undef :: undef :: undef :: undef :: undef :: undef :: undef :: undef :: undef :: undef :: undef :: undef :: undef :: undef :: undef :: undef :: undef :: undef :: undef :: undef :: undef :: undef :: undef :: undef :: undef :: undef :: undef :: undef :: undef :: undef :: undef :: undef :: undef :: undef :: undef :: undef :: undef :: undef :: undef :: undef :: undef :: undef :: undef :: undef :: undef :: undef :: undef :: undef :: undef :: undef :: undef :: undef :: undef :: undef :: undef :: undef :: undef :: undef :: []), defers := [] } ∧ Hid (Below wa.heap.size wa w9) ∧ Hid (RegI (mapQ (renF (zipF [n0, n1] [n1, n0])) ⟨hd, ga, av, rs, os⟩) er d wa w9 x7 x41) ∧ Hid (d 0 = true → x34 = .agg #[.slice A hd.length ch, .int .i64 ga, .string Y, .slice R rs.length cr, .slice O os.length co]) ∧ Hid (d 1 = true → x35 = .slice (some ⟨w.heap.size + 1, 0, none⟩) 2 2) ∧ Hid (d 2 = true → x36 = .pointer (some ⟨w.heap.size + 1, 1, none⟩)) ∧ Hid (d 3 = true → x37 = .string N1) ∧ Hid (d 4 = true → x38 = .pointer (some ⟨w.heap.size + 1, 0, none⟩)) ∧ Hid (d 5 = true → x39 = .string N0) ∧ Hid (d 6 = true → ∃ g, x40 = .slice (some ⟨g, 0, none⟩) 2 2 ∧ (d 7 = false → w9.heap[g]? = some (.cells #[.string N1, .string N0] 9 (0, 0)))) ∧ Hid (d 8 = true → x33 = x41) ∧ Hid (d 9 = true → x42 = tupV x41 0) ∧ Hid (d 10 = true → x43 = tupV x41 1) ∧ Hid (d 13 = true → x8 = tupV x41 1)) (by kernel_rfl) (by kernel_rfl) ?h0 ?hst ?fin
        case h0 => exact ⟨_, _, _, _, _, _, _, _, _, _, _, _, _, rfl, hid (Below.drew (Below.refl _ _)), hid (RegI.mk 0 0 0 (hid (fun h => absurd h (by decide))) (hid (fun h => absurd h (by decide))) (hid (fun h => absurd h (by decide))) (hid (fun h => absurd h (by decide)))), hid (fun h => absurd h (by decide)), hid (fun h => absurd h (by decide)), hid (fun h => absurd h (by decide)), hid (fun h => absurd h (by decide)), hid (fun h => absurd h (by decide)), hid (fun h => absurd h (by decide)), hid (fun h => absurd h (by decide)), hid (fun h => absurd h (by decide)), hid (fun h => absurd h (by decide)), hid (fun h => absurd h (by decide)), hid (fun h => absurd h (by decide))⟩
        case hst =>
          refine ⟨?_, ?_, ?_, ?_, ?_, ?_, ?_, ?_, ?_, ?_, ?_, ?_, ?_, ?_, trivial⟩
          · rintro d ac w9 ⟨x34, x35, x36, x37, x38, x39, x40, x41, x33, x42, x43, x7, x8, rfl, HB, HR, f0, f1, f2, f3, f4, f5, f6, f8, f9, f10, f13⟩ hcl hdk haft
            obtain ⟨e0x, e1x, gX, J, f7, f11, f12⟩ := HR.out
            clear HR
            have q09 := cell_keep HB.out Q0.out
            have q19 := cell_keep HB.out Q1.out
            have q29 := cell_keep HB.out Q2.out
            have q39 := cell_keep HB.out Q3.out
            have q49 := cell_keep HB.out Q4.out
            have ql9 : w.heap.size + 1 < w9.heap.size := Nat.lt_of_lt_of_le QL.out HB.out.size
            have ql8 : w.heap.size < w9.heap.size := by omega
            clear  hdk haft hcl
            go_wp2
            exact rthenK_n ⟨_, _, _, _, _, _, _, _, _, _, _, _, _, rfl, hid (HB.out.trans ((Below.refl w9.heap.size w9).mono HB.out.size)), hid (RegI.mk (e0x) (e1x) (gX) (hid (fun a b => J.out (rup rfl a) (rup rfl b))) (rkf rfl f7 (fun h => h.below (Below.refl w9.heap.size w9))) (rkf rfl f11 (fun h => ⟨by first | exact h.1 | exact rfl, h.2.1, Nat.lt_of_lt_of_le h.2.2.1 (Below.refl w9.heap.size w9).size, fun h15 => res_keep' (h.2.2.2 (runupd rfl h15)) (Below.refl w9.heap.size w9) h.2.2.1⟩)) (rkf rfl f12 (fun h => (by obtain ⟨c, e, hh⟩ := h; exact ⟨c, e, res_keep' hh (Below.refl w9.heap.size w9) (lt_of_block hh)⟩)))), rnf (rfl), rkf rfl f1 (fun h => by first | exact h | exact rfl), rkf rfl f2 (fun h => by first | exact h | exact rfl), rkf rfl f3 (fun h => by first | exact h | exact rfl), rkf rfl f4 (fun h => by first | exact h | exact rfl), rkf rfl f5 (fun h => by first | exact h | exact rfl), rkf rfl f6 (fun h => (by obtain ⟨g, e1, e2⟩ := h; exact ⟨g, e1, fun h15 => res_keep' (e2 (runupd rfl h15)) (Below.refl w9.heap.size w9) (lt_of_block (e2 (runupd rfl h15)))⟩)), rkf rfl f8 (fun h => by first | exact h | exact rfl), rkf rfl f9 (fun h => by first | exact h | exact rfl), rkf rfl f10 (fun h => by first | exact h | exact rfl), rkf rfl f13 (fun h => by first | exact h | exact rfl)⟩
          · rintro d ac w9 ⟨x34, x35, x36, x37, x38, x39, x40, x41, x33, x42, x43, x7, x8, rfl, HB, HR, f0, f1, f2, f3, f4, f5, f6, f8, f9, f10, f13⟩ hcl hdk haft
            obtain ⟨e0x, e1x, gX, J, f7, f11, f12⟩ := HR.out
            clear HR
            have a09 := cell_keep HB.out A0.out
            have a19 := cell_keep HB.out A1.out
            have ql9 : w.heap.size + 1 < w9.heap.size := Nat.lt_of_lt_of_le QL.out HB.out.size
            have ql8 : w.heap.size < w9.heap.size := by omega
            clear  hdk haft hcl
            go_wp2
            exact rthenK_n ⟨_, _, _, _, _, _, _, _, _, _, _, _, _, rfl, hid (HB.out.trans ((Below.refl w9.heap.size w9).mono HB.out.size)), hid (RegI.mk (e0x) (e1x) (gX) (hid (fun a b => J.out (rup rfl a) (rup rfl b))) (rkf rfl f7 (fun h => h.below (Below.refl w9.heap.size w9))) (rkf rfl f11 (fun h => ⟨by first | exact h.1 | exact rfl, h.2.1, Nat.lt_of_lt_of_le h.2.2.1 (Below.refl w9.heap.size w9).size, fun h15 => res_keep' (h.2.2.2 (runupd rfl h15)) (Below.refl w9.heap.size w9) h.2.2.1⟩)) (rkf rfl f12 (fun h => (by obtain ⟨c, e, hh⟩ := h; exact ⟨c, e, res_keep' hh (Below.refl w9.heap.size w9) (lt_of_block hh)⟩)))), rkf rfl f0 (fun h => by first | exact h | exact rfl), rnf (rfl), rkf rfl f2 (fun h => by first | exact h | exact rfl), rkf rfl f3 (fun h => by first | exact h | exact rfl), rkf rfl f4 (fun h => by first | exact h | exact rfl), rkf rfl f5 (fun h => by first | exact h | exact rfl), rkf rfl f6 (fun h => (by obtain ⟨g, e1, e2⟩ := h; exact ⟨g, e1, fun h15 => res_keep' (e2 (runupd rfl h15)) (Below.refl w9.heap.size w9) (lt_of_block (e2 (runupd rfl h15)))⟩)), rkf rfl f8 (fun h => by first | exact h | exact rfl), rkf rfl f9 (fun h => by first | exact h | exact rfl), rkf rfl f10 (fun h => by first | exact h | exact rfl), rkf rfl f13 (fun h => by first | exact h | exact rfl)⟩
          · rintro d ac w9 ⟨x34, x35, x36, x37, x38, x39, x40, x41, x33, x42, x43, x7, x8, rfl, HB, HR, f0, f1, f2, f3, f4, f5, f6, f8, f9, f10, f13⟩ hcl hdk haft
            obtain ⟨e0x, e1x, gX, J, f7, f11, f12⟩ := HR.out
            clear HR
            have a09 := cell_keep HB.out A0.out
            have a19 := cell_keep HB.out A1.out
            have ql9 : w.heap.size + 1 < w9.heap.size := Nat.lt_of_lt_of_le QL.out HB.out.size
            have ql8 : w.heap.size < w9.heap.size := by omega
            clear  hdk haft hcl
            go_wp2
            exact rthenK_n ⟨_, _, _, _, _, _, _, _, _, _, _, _, _, rfl, hid (HB.out.trans ((Below.refl w9.heap.size w9).mono HB.out.size)), hid (RegI.mk (e0x) (e1x) (gX) (hid (fun a b => J.out (rup rfl a) (rup rfl b))) (rkf rfl f7 (fun h => h.below (Below.refl w9.heap.size w9))) (rkf rfl f11 (fun h => ⟨by first | exact h.1 | exact rfl, h.2.1, Nat.lt_of_lt_of_le h.2.2.1 (Below.refl w9.heap.size w9).size, fun h15 => res_keep' (h.2.2.2 (runupd rfl h15)) (Below.refl w9.heap.size w9) h.2.2.1⟩)) (rkf rfl f12 (fun h => (by obtain ⟨c, e, hh⟩ := h; exact ⟨c, e, res_keep' hh (Below.refl w9.heap.size w9) (lt_of_block hh)⟩)))), rkf rfl f0 (fun h => by first | exact h | exact rfl), rkf rfl f1 (fun h => by first | exact h | exact rfl), rnf (rfl), rkf rfl f3 (fun h => by first | exact h | exact rfl), rkf rfl f4 (fun h => by first | exact h | exact rfl), rkf rfl f5 (fun h => by first | exact h | exact rfl), rkf rfl f6 (fun h => (by obtain ⟨g, e1, e2⟩ := h; exact ⟨g, e1, fun h15 => res_keep' (e2 (runupd rfl h15)) (Below.refl w9.heap.size w9) (lt_of_block (e2 (runupd rfl h15)))⟩)), rkf rfl f8 (fun h => by first | exact h | exact rfl), rkf rfl f9 (fun h => by first | exact h | exact rfl), rkf rfl f10 (fun h => by first | exact h | exact rfl), rkf rfl f13 (fun h => by first | exact h | exact rfl)⟩
          · rintro d ac w9 ⟨x34, x35, x36, x37, x38, x39, x40, x41, x33, x42, x43, x7, x8, rfl, HB, HR, f0, f1, f2, f3, f4, f5, f6, f8, f9, f10, f13⟩ hcl hdk haft
            obtain ⟨e0x, e1x, gX, J, f7, f11, f12⟩ := HR.out
            clear HR
            have h2 := haft ⟨2, .data⟩ (by simp) rfl
            obtain rfl := f2.out h2
            have a19 := cell_keep HB.out A1.out
            have ql9 : w.heap.size + 1 < w9.heap.size := Nat.lt_of_lt_of_le QL.out HB.out.size
            have ql8 : w.heap.size < w9.heap.size := by omega
            clear h2 hdk haft hcl
            go_wp2
            exact rthenK_n ⟨_, _, _, _, _, _, _, _, _, _, _, _, _, rfl, hid (HB.out.trans ((Below.refl w9.heap.size w9).mono HB.out.size)), hid (RegI.mk (e0x) (e1x) (gX) (hid (fun a b => J.out (rup rfl a) (rup rfl b))) (rkf rfl f7 (fun h => h.below (Below.refl w9.heap.size w9))) (rkf rfl f11 (fun h => ⟨by first | exact h.1 | exact rfl, h.2.1, Nat.lt_of_lt_of_le h.2.2.1 (Below.refl w9.heap.size w9).size, fun h15 => res_keep' (h.2.2.2 (runupd rfl h15)) (Below.refl w9.heap.size w9) h.2.2.1⟩)) (rkf rfl f12 (fun h => (by obtain ⟨c, e, hh⟩ := h; exact ⟨c, e, res_keep' hh (Below.refl w9.heap.size w9) (lt_of_block hh)⟩)))), rkf rfl f0 (fun h => by first | exact h | exact rfl), rkf rfl f1 (fun h => by first | exact h | exact rfl), rkf rfl f2 (fun h => by first | exact h | exact rfl), rnf (rfl), rkf rfl f4 (fun h => by first | exact h | exact rfl), rkf rfl f5 (fun h => by first | exact h | exact rfl), rkf rfl f6 (fun h => (by obtain ⟨g, e1, e2⟩ := h; exact ⟨g, e1, fun h15 => res_keep' (e2 (runupd rfl h15)) (Below.refl w9.heap.size w9) (lt_of_block (e2 (runupd rfl h15)))⟩)), rkf rfl f8 (fun h => by first | exact h | exact rfl), rkf rfl f9 (fun h => by first | exact h | exact rfl), rkf rfl f10 (fun h => by first | exact h | exact rfl), rkf rfl f13 (fun h => by first | exact h | exact rfl)⟩
          · rintro d ac w9 ⟨x34, x35, x36, x37, x38, x39, x40, x41, x33, x42, x43, x7, x8, rfl, HB, HR, f0, f1, f2, f3, f4, f5, f6, f8, f9, f10, f13⟩ hcl hdk haft
            obtain ⟨e0x, e1x, gX, J, f7, f11, f12⟩ := HR.out
            clear HR
            have a09 := cell_keep HB.out A0.out
            have a19 := cell_keep HB.out A1.out
            have ql9 : w.heap.size + 1 < w9.heap.size := Nat.lt_of_lt_of_le QL.out HB.out.size
            have ql8 : w.heap.size < w9.heap.size := by omega
            clear  hdk haft hcl
            go_wp2
            exact rthenK_n ⟨_, _, _, _, _, _, _, _, _, _, _, _, _, rfl, hid (HB.out.trans ((Below.refl w9.heap.size w9).mono HB.out.size)), hid (RegI.mk (e0x) (e1x) (gX) (hid (fun a b => J.out (rup rfl a) (rup rfl b))) (rkf rfl f7 (fun h => h.below (Below.refl w9.heap.size w9))) (rkf rfl f11 (fun h => ⟨by first | exact h.1 | exact rfl, h.2.1, Nat.lt_of_lt_of_le h.2.2.1 (Below.refl w9.heap.size w9).size, fun h15 => res_keep' (h.2.2.2 (runupd rfl h15)) (Below.refl w9.heap.size w9) h.2.2.1⟩)) (rkf rfl f12 (fun h => (by obtain ⟨c, e, hh⟩ := h; exact ⟨c, e, res_keep' hh (Below.refl w9.heap.size w9) (lt_of_block hh)⟩)))), rkf rfl f0 (fun h => by first | exact h | exact rfl), rkf rfl f1 (fun h => by first | exact h | exact rfl), rkf rfl f2 (fun h => by first | exact h | exact rfl), rkf rfl f3 (fun h => by first | exact h | exact rfl), rnf (rfl), rkf rfl f5 (fun h => by first | exact h | exact rfl), rkf rfl f6 (fun h => (by obtain ⟨g, e1, e2⟩ := h; exact ⟨g, e1, fun h15 => res_keep' (e2 (runupd rfl h15)) (Below.refl w9.heap.size w9) (lt_of_block (e2 (runupd rfl h15)))⟩)), rkf rfl f8 (fun h => by first | exact h | exact rfl), rkf rfl f9 (fun h => by first | exact h | exact rfl), rkf rfl f10 (fun h => by first | exact h | exact rfl), rkf rfl f13 (fun h => by first | exact h | exact rfl)⟩
          · rintro d ac w9 ⟨x34, x35, x36, x37, x38, x39, x40, x41, x33, x42, x43, x7, x8, rfl, HB, HR, f0, f1, f2, f3, f4, f5, f6, f8, f9, f10, f13⟩ hcl hdk haft
            obtain ⟨e0x, e1x, gX, J, f7, f11, f12⟩ := HR.out
            clear HR
            have h4 := haft ⟨4, .data⟩ (by simp) rfl
            obtain rfl := f4.out h4
            have a09 := cell_keep HB.out A0.out
            have ql9 : w.heap.size + 1 < w9.heap.size := Nat.lt_of_lt_of_le QL.out HB.out.size
            have ql8 : w.heap.size < w9.heap.size := by omega
            clear h4 hdk haft hcl
            go_wp2
            exact rthenK_n ⟨_, _, _, _, _, _, _, _, _, _, _, _, _, rfl, hid (HB.out.trans ((Below.refl w9.heap.size w9).mono HB.out.size)), hid (RegI.mk (e0x) (e1x) (gX) (hid (fun a b => J.out (rup rfl a) (rup rfl b))) (rkf rfl f7 (fun h => h.below (Below.refl w9.heap.size w9))) (rkf rfl f11 (fun h => ⟨by first | exact h.1 | exact rfl, h.2.1, Nat.lt_of_lt_of_le h.2.2.1 (Below.refl w9.heap.size w9).size, fun h15 => res_keep' (h.2.2.2 (runupd rfl h15)) (Below.refl w9.heap.size w9) h.2.2.1⟩)) (rkf rfl f12 (fun h => (by obtain ⟨c, e, hh⟩ := h; exact ⟨c, e, res_keep' hh (Below.refl w9.heap.size w9) (lt_of_block hh)⟩)))), rkf rfl f0 (fun h => by first | exact h | exact rfl), rkf rfl f1 (fun h => by first | exact h | exact rfl), rkf rfl f2 (fun h => by first | exact h | exact rfl), rkf rfl f3 (fun h => by first | exact h | exact rfl), rkf rfl f4 (fun h => by first | exact h | exact rfl), rnf (rfl), rkf rfl f6 (fun h => (by obtain ⟨g, e1, e2⟩ := h; exact ⟨g, e1, fun h15 => res_keep' (e2 (runupd rfl h15)) (Below.refl w9.heap.size w9) (lt_of_block (e2 (runupd rfl h15)))⟩)), rkf rfl f8 (fun h => by first | exact h | exact rfl), rkf rfl f9 (fun h => by first | exact h | exact rfl), rkf rfl f10 (fun h => by first | exact h | exact rfl), rkf rfl f13 (fun h => by first | exact h | exact rfl)⟩
          · rintro d ac w9 ⟨x34, x35, x36, x37, x38, x39, x40, x41, x33, x42, x43, x7, x8, rfl, HB, HR, f0, f1, f2, f3, f4, f5, f6, f8, f9, f10, f13⟩ hcl hdk haft
            obtain ⟨e0x, e1x, gX, J, f7, f11, f12⟩ := HR.out
            clear HR
            have h3 := haft ⟨3, .data⟩ (by simp) rfl
            have h5 := haft ⟨5, .data⟩ (by simp) rfl
            obtain rfl := f3.out h3
            obtain rfl := f5.out h5
            clear h3 h5 hdk haft hcl
            go_wp2
            exact rthenK_n ⟨_, _, _, _, _, _, _, _, _, _, _, _, _, rfl, hid (HB.out.trans ((below_one w9 _).mono HB.out.size)), hid (RegI.mk (e0x) (e1x) (gX) (hid (fun a b => J.out (rup rfl a) (rup rfl b))) (rkf rfl f7 (fun h => h.below (below_one w9 _))) (rkf rfl f11 (fun h => ⟨by first | exact h.1 | exact rfl, h.2.1, Nat.lt_of_lt_of_le h.2.2.1 (below_one w9 _).size, fun h15 => res_keep' (h.2.2.2 (runupd rfl h15)) (below_one w9 _) h.2.2.1⟩)) (rkf rfl f12 (fun h => (by obtain ⟨c, e, hh⟩ := h; exact ⟨c, e, res_keep' hh (below_one w9 _) (lt_of_block hh)⟩)))), rkf rfl f0 (fun h => by first | exact h | exact rfl), rkf rfl f1 (fun h => by first | exact h | exact rfl), rkf rfl f2 (fun h => by first | exact h | exact rfl), rkf rfl f3 (fun h => by first | exact h | exact rfl), rkf rfl f4 (fun h => by first | exact h | exact rfl), rkf rfl f5 (fun h => by first | exact h | exact rfl), rnf (⟨_, rfl, fun _ => heap_alloc_new w9 _⟩), rkf rfl f8 (fun h => by first | exact h | exact rfl), rkf rfl f9 (fun h => by first | exact h | exact rfl), rkf rfl f10 (fun h => by first | exact h | exact rfl), rkf rfl f13 (fun h => by first | exact h | exact rfl)⟩
          · rintro d ac w9 ⟨x34, x35, x36, x37, x38, x39, x40, x41, x33, x42, x43, x7, x8, rfl, HB, HR, f0, f1, f2, f3, f4, f5, f6, f8, f9, f10, f13⟩ hcl hdk haft
            obtain ⟨e0x, e1x, gX, J, f7, f11, f12⟩ := HR.out
            clear HR
            have h0 := haft ⟨0, .data⟩ (by simp) rfl
            have h1 := haft ⟨1, .data⟩ (by simp) rfl
            have h6 := haft ⟨6, .data⟩ (by simp) rfl
            obtain rfl := f0.out h0
            obtain rfl := f1.out h1
            obtain ⟨g6, rfl, hg6⟩ := f6.out h6
            have HG6 := hid (hg6 hdk)
            clear hg6
            have no8 : d 8 = true → False := fun h => absurd ((hcl 8 _ rfl h ⟨7, .data⟩ (by simp) rfl).symm.trans hdk) (by decide)
            have no9 : d 9 = true → False := fun h => absurd ((hcl 8 _ rfl (hcl 9 _ rfl h ⟨8, .data⟩ (by simp) rfl) ⟨7, .data⟩ (by simp) rfl).symm.trans hdk) (by decide)
            have no10 : d 10 = true → False := fun h => absurd ((hcl 8 _ rfl (hcl 10 _ rfl h ⟨8, .data⟩ (by simp) rfl) ⟨7, .data⟩ (by simp) rfl).symm.trans hdk) (by decide)
            have no12 : d 12 = true → False := fun h => absurd ((hcl 8 _ rfl (hcl 9 _ rfl (hcl 12 _ rfl h ⟨9, .data⟩ (by simp) rfl) ⟨8, .data⟩ (by simp) rfl) ⟨7, .data⟩ (by simp) rfl).symm.trans hdk) (by decide)
            have no13 : d 13 = true → False := fun h => absurd ((hcl 8 _ rfl (hcl 10 _ rfl (hcl 13 _ rfl h ⟨10, .data⟩ (by simp) rfl) ⟨8, .data⟩ (by simp) rfl) ⟨7, .data⟩ (by simp) rfl).symm.trans hdk) (by decide)
            have NO := hid (⟨no8, no9, no10, no12, no13⟩ : (d 8 = true → False) ∧ (d 9 = true → False) ∧ (d 10 = true → False) ∧ (d 12 = true → False) ∧ (d 13 = true → False))
            clear no8 no9 no10 no12 no13
            clear h0 h1 h6 hdk haft hcl
            go_wp2_with fail
            refine (CR _ _ _ (HQ.out.below (HBE.out.trans (HB.out.mono HBE.out.size))) (nms2 (cell_keep HB.out A0.out) (cell_keep HB.out A1.out) HN0.out.1 HN1.out.1) (nms2 (rcell HG6.out rfl) (rcell HG6.out rfl) HN1.out.1 HN0.out.1)).out.mono ?_
            rintro e w8 ⟨x, rfl, hrf, b8⟩
            go_wp2
            exact rthenK_n ⟨_, _, _, _, _, _, _, _, _, _, _, _, _, rfl, hid (HB.out.trans (b8.mono HB.out.size)), hid (RegI.mk (w9.heap.size) (w8.heap.size) (gX) (hid (fun _ b => .inl (f11.out (rup rfl b)).2.2.1)) (rnf (hrf)) (rkf rfl f11 (fun h => ⟨by first | exact h.1 | exact rfl, h.2.1, Nat.lt_of_lt_of_le h.2.2.1 b8.size, fun h15 => res_keep' (h.2.2.2 (runupd rfl h15)) b8 h.2.2.1⟩)) (hid (fun h => (NO.out.2.2.2.1 (rup rfl h)).elim))), rkf rfl f0 (fun h => by first | exact h | exact rfl), rkf rfl f1 (fun h => by first | exact h | exact rfl), rkf rfl f2 (fun h => by first | exact h | exact rfl), rkf rfl f3 (fun h => by first | exact h | exact rfl), rkf rfl f4 (fun h => by first | exact h | exact rfl), rkf rfl f5 (fun h => by first | exact h | exact rfl), rkf rfl f6 (fun h => (by obtain ⟨g, e1, _⟩ := h; exact ⟨g, e1, fun h15 => absurd h15 (fun h => rupd_self h)⟩)), hid (fun h => (NO.out.1 (rup rfl h)).elim), hid (fun h => (NO.out.2.1 (rup rfl h)).elim), hid (fun h => (NO.out.2.2.1 (rup rfl h)).elim), hid (fun h => (NO.out.2.2.2.2 (rup rfl h)).elim)⟩
          · rintro d ac w9 ⟨x34, x35, x36, x37, x38, x39, x40, x41, x33, x42, x43, x7, x8, rfl, HB, HR, f0, f1, f2, f3, f4, f5, f6, f8, f9, f10, f13⟩ hcl hdk haft
            obtain ⟨e0x, e1x, gX, J, f7, f11, f12⟩ := HR.out
            clear HR
            have h7 := haft ⟨7, .data⟩ (by simp) rfl
            clear h7 hdk haft hcl
            go_wp2
            exact rthenK_n ⟨_, _, _, _, _, _, _, _, _, _, _, _, _, rfl, hid (HB.out.trans ((Below.refl w9.heap.size w9).mono HB.out.size)), hid (RegI.mk (e0x) (e1x) (gX) (hid (fun a b => J.out (rup rfl a) (rup rfl b))) (rkf rfl f7 (fun h => h.below (Below.refl w9.heap.size w9))) (rkf rfl f11 (fun h => ⟨by first | exact h.1 | exact rfl, h.2.1, Nat.lt_of_lt_of_le h.2.2.1 (Below.refl w9.heap.size w9).size, fun h15 => res_keep' (h.2.2.2 (runupd rfl h15)) (Below.refl w9.heap.size w9) h.2.2.1⟩)) (rkf rfl f12 (fun h => (by obtain ⟨c, e, hh⟩ := h; exact ⟨c, e, res_keep' hh (Below.refl w9.heap.size w9) (lt_of_block hh)⟩)))), rkf rfl f0 (fun h => by first | exact h | exact rfl), rkf rfl f1 (fun h => by first | exact h | exact rfl), rkf rfl f2 (fun h => by first | exact h | exact rfl), rkf rfl f3 (fun h => by first | exact h | exact rfl), rkf rfl f4 (fun h => by first | exact h | exact rfl), rkf rfl f5 (fun h => by first | exact h | exact rfl), rkf rfl f6 (fun h => (by obtain ⟨g, e1, e2⟩ := h; exact ⟨g, e1, fun h15 => res_keep' (e2 (runupd rfl h15)) (Below.refl w9.heap.size w9) (lt_of_block (e2 (runupd rfl h15)))⟩)), rnf (rfl), rkf rfl f9 (fun h => by first | exact h | exact rfl), rkf rfl f10 (fun h => by first | exact h | exact rfl), rkf rfl f13 (fun h => by first | exact h | exact rfl)⟩
          · rintro d ac w9 ⟨x34, x35, x36, x37, x38, x39, x40, x41, x33, x42, x43, x7, x8, rfl, HB, HR, f0, f1, f2, f3, f4, f5, f6, f8, f9, f10, f13⟩ hcl hdk haft
            obtain ⟨e0x, e1x, gX, J, f7, f11, f12⟩ := HR.out
            clear HR
            have h8 := haft ⟨8, .data⟩ (by simp) rfl
            have h7 := hcl 8 _ rfl h8 ⟨7, .data⟩ (by simp) rfl
            obtain e33 := f8.out h8
            obtain ⟨l0, l1, cl, e41, hc5, hc1, hrp⟩ := f7.out h7
            subst e41
            subst e33
            clear h7 h8 hc5 hc1 hrp l0 l1
            clear  hdk haft hcl
            go_wp2
            exact rthenK_n ⟨_, _, _, _, _, _, _, _, _, _, _, _, _, rfl, hid (HB.out.trans ((Below.refl w9.heap.size w9).mono HB.out.size)), hid (RegI.mk (e0x) (e1x) (gX) (hid (fun a b => J.out (rup rfl a) (rup rfl b))) (rkf rfl f7 (fun h => h.below (Below.refl w9.heap.size w9))) (rkf rfl f11 (fun h => ⟨by first | exact h.1 | exact rfl, h.2.1, Nat.lt_of_lt_of_le h.2.2.1 (Below.refl w9.heap.size w9).size, fun h15 => res_keep' (h.2.2.2 (runupd rfl h15)) (Below.refl w9.heap.size w9) h.2.2.1⟩)) (rkf rfl f12 (fun h => (by obtain ⟨c, e, hh⟩ := h; exact ⟨c, e, res_keep' hh (Below.refl w9.heap.size w9) (lt_of_block hh)⟩)))), rkf rfl f0 (fun h => by first | exact h | exact rfl), rkf rfl f1 (fun h => by first | exact h | exact rfl), rkf rfl f2 (fun h => by first | exact h | exact rfl), rkf rfl f3 (fun h => by first | exact h | exact rfl), rkf rfl f4 (fun h => by first | exact h | exact rfl), rkf rfl f5 (fun h => by first | exact h | exact rfl), rkf rfl f6 (fun h => (by obtain ⟨g, e1, e2⟩ := h; exact ⟨g, e1, fun h15 => res_keep' (e2 (runupd rfl h15)) (Below.refl w9.heap.size w9) (lt_of_block (e2 (runupd rfl h15)))⟩)), rkf rfl f8 (fun h => by first | exact h | exact rfl), rnf (rfl), rkf rfl f10 (fun h => by first | exact h | exact rfl), rkf rfl f13 (fun h => by first | exact h | exact rfl)⟩
          · rintro d ac w9 ⟨x34, x35, x36, x37, x38, x39, x40, x41, x33, x42, x43, x7, x8, rfl, HB, HR, f0, f1, f2, f3, f4, f5, f6, f8, f9, f10, f13⟩ hcl hdk haft
            obtain ⟨e0x, e1x, gX, J, f7, f11, f12⟩ := HR.out
            clear HR
            have h8 := haft ⟨8, .data⟩ (by simp) rfl
            have h7 := hcl 8 _ rfl h8 ⟨7, .data⟩ (by simp) rfl
            obtain e33 := f8.out h8
            obtain ⟨l0, l1, cl, e41, hc5, hc1, hrp⟩ := f7.out h7
            subst e41
            subst e33
            clear h7 h8 hc5 hc1 hrp l0 l1
            clear  hdk haft hcl
            go_wp2
            exact rthenK_n ⟨_, _, _, _, _, _, _, _, _, _, _, _, _, rfl, hid (HB.out.trans ((Below.refl w9.heap.size w9).mono HB.out.size)), hid (RegI.mk (e0x) (e1x) (gX) (hid (fun a b => J.out (rup rfl a) (rup rfl b))) (rkf rfl f7 (fun h => h.below (Below.refl w9.heap.size w9))) (rkf rfl f11 (fun h => ⟨by first | exact h.1 | exact rfl, h.2.1, Nat.lt_of_lt_of_le h.2.2.1 (Below.refl w9.heap.size w9).size, fun h15 => res_keep' (h.2.2.2 (runupd rfl h15)) (Below.refl w9.heap.size w9) h.2.2.1⟩)) (rkf rfl f12 (fun h => (by obtain ⟨c, e, hh⟩ := h; exact ⟨c, e, res_keep' hh (Below.refl w9.heap.size w9) (lt_of_block hh)⟩)))), rkf rfl f0 (fun h => by first | exact h | exact rfl), rkf rfl f1 (fun h => by first | exact h | exact rfl), rkf rfl f2 (fun h => by first | exact h | exact rfl), rkf rfl f3 (fun h => by first | exact h | exact rfl), rkf rfl f4 (fun h => by first | exact h | exact rfl), rkf rfl f5 (fun h => by first | exact h | exact rfl), rkf rfl f6 (fun h => (by obtain ⟨g, e1, e2⟩ := h; exact ⟨g, e1, fun h15 => res_keep' (e2 (runupd rfl h15)) (Below.refl w9.heap.size w9) (lt_of_block (e2 (runupd rfl h15)))⟩)), rkf rfl f8 (fun h => by first | exact h | exact rfl), rkf rfl f9 (fun h => by first | exact h | exact rfl), rnf (rfl), rkf rfl f13 (fun h => by first | exact h | exact rfl)⟩
          · rintro d ac w9 ⟨x34, x35, x36, x37, x38, x39, x40, x41, x33, x42, x43, x7, x8, rfl, HB, HR, f0, f1, f2, f3, f4, f5, f6, f8, f9, f10, f13⟩ hcl hdk haft
            obtain ⟨e0x, e1x, gX, J, f7, f11, f12⟩ := HR.out
            clear HR
            have no12 : d 12 = true → False := fun h => absurd ((hcl 12 _ rfl h ⟨11, .data⟩ (by simp) rfl).symm.trans hdk) (by decide)
            have NO := hid no12
            clear no12
            clear  hdk haft hcl
            go_wp2
            exact rthenK_n ⟨_, _, _, _, _, _, _, _, _, _, _, _, _, rfl, hid (HB.out.trans ((below_one w9 _).mono HB.out.size)), hid (RegI.mk (e0x) (e1x) (w9.heap.size) (hid (fun a _ => .inr (f7.out (rup rfl a)).2.1)) (rkf rfl f7 (fun h => h.below (below_one w9 _))) (rnf (⟨rfl, HB.out.size, by simp, fun _ => heap_alloc_new w9 _⟩)) (hid (fun h => (NO.out (rup rfl h)).elim))), rkf rfl f0 (fun h => by first | exact h | exact rfl), rkf rfl f1 (fun h => by first | exact h | exact rfl), rkf rfl f2 (fun h => by first | exact h | exact rfl), rkf rfl f3 (fun h => by first | exact h | exact rfl), rkf rfl f4 (fun h => by first | exact h | exact rfl), rkf rfl f5 (fun h => by first | exact h | exact rfl), rkf rfl f6 (fun h => (by obtain ⟨g, e1, e2⟩ := h; exact ⟨g, e1, fun h15 => res_keep' (e2 (runupd rfl h15)) (below_one w9 _) (lt_of_block (e2 (runupd rfl h15)))⟩)), rkf rfl f8 (fun h => by first | exact h | exact rfl), rkf rfl f9 (fun h => by first | exact h | exact rfl), rkf rfl f10 (fun h => by first | exact h | exact rfl), rkf rfl f13 (fun h => by first | exact h | exact rfl)⟩
          · rintro d ac w9 ⟨x34, x35, x36, x37, x38, x39, x40, x41, x33, x42, x43, x7, x8, rfl, HB, HR, f0, f1, f2, f3, f4, f5, f6, f8, f9, f10, f13⟩ hcl hdk haft
            obtain ⟨e0x, e1x, gX, J, f7, f11, f12⟩ := HR.out
            clear HR
            have h11 := haft ⟨11, .data⟩ (by simp) rfl
            have h9 := haft ⟨9, .data⟩ (by simp) rfl
            have h8 := hcl 9 _ rfl h9 ⟨8, .data⟩ (by simp) rfl
            have h7 := hcl 8 _ rfl h8 ⟨7, .data⟩ (by simp) rfl
            have hJ := J.out h7 h11
            obtain ⟨rfl, hg7, hl7, hh7⟩ := f11.out h11
            have HH := hid (hh7 hdk)
            obtain rfl := f9.out h9
            obtain ⟨l0, l1, cl, e41, hc5, hc1, hrp⟩ := f7.out h7
            subst e41
            have HC5 := hid hc5
            have HC1 := hid hc1
            have HJ := hid hJ
            have HC7 := hid h7
            clear hh7 h7 h8 h9 h11 hrp hc5 hc1 hJ
            clear  hdk haft hcl
            go_wp2_with (refine wpList_stored2 rfl rfl rfl rfl HH.out (by rw [HC5.out]; exact infoQryN) (by rw [HC5.out]; rfl) HC1.out ?_; intro w8 hz8 hg8)
            exact rthenK_n ⟨_, _, _, _, _, _, _, _, _, _, _, _, _, rfl, hid (HB.out.grown hg8 HB.out.size (fun k e => by injection e with e; omega)), hid (RegI.mk (e0x) (e1x) (gX) (hid (fun a b => J.out (rup rfl a) (rup rfl b))) (rkf rfl f7 (fun h => h.on hg8.size (fun b x y => hg8.block b (by have := h.2.1; omega) (fun e => by injection e with e; have := HJ.out; omega)))) (rkf rfl f11 (fun h => ⟨by first | exact h.1 | exact rfl, h.2.1, Nat.lt_of_lt_of_le h.2.2.1 hg8.size, fun h15 => absurd h15 (fun h => rupd_self h)⟩)) (rnf (⟨_, rfl, hz8⟩))), rkf rfl f0 (fun h => by first | exact h | exact rfl), rkf rfl f1 (fun h => by first | exact h | exact rfl), rkf rfl f2 (fun h => by first | exact h | exact rfl), rkf rfl f3 (fun h => by first | exact h | exact rfl), rkf rfl f4 (fun h => by first | exact h | exact rfl), rkf rfl f5 (fun h => by first | exact h | exact rfl), rkf rfl f6 (fun h => (by obtain ⟨g, e1, e2⟩ := h; exact ⟨g, e1, fun h15 => (no7x HC7.out (runupd rfl h15)).elim⟩)), rkf rfl f8 (fun h => by first | exact h | exact rfl), rkf rfl f9 (fun h => by first | exact h | exact rfl), rkf rfl f10 (fun h => by first | exact h | exact rfl), rkf rfl f13 (fun h => by first | exact h | exact rfl)⟩
          · rintro d ac w9 ⟨x34, x35, x36, x37, x38, x39, x40, x41, x33, x42, x43, x7, x8, rfl, HB, HR, f0, f1, f2, f3, f4, f5, f6, f8, f9, f10, f13⟩ hcl hdk haft
            obtain ⟨e0x, e1x, gX, J, f7, f11, f12⟩ := HR.out
            clear HR
            have h10 := haft ⟨10, .data⟩ (by simp) rfl
            obtain rfl := f10.out h10
            clear h10 hdk haft hcl
            go_wp2
            exact rthenK_n ⟨_, _, _, _, _, _, _, _, _, _, _, _, _, rfl, hid (HB.out.trans ((Below.refl w9.heap.size w9).mono HB.out.size)), hid (RegI.mk (e0x) (e1x) (gX) (hid (fun a b => J.out (rup rfl a) (rup rfl b))) (rkf rfl f7 (fun h => h.below (Below.refl w9.heap.size w9))) (rkf rfl f11 (fun h => ⟨by first | exact h.1 | exact rfl, h.2.1, Nat.lt_of_lt_of_le h.2.2.1 (Below.refl w9.heap.size w9).size, fun h15 => res_keep' (h.2.2.2 (runupd rfl h15)) (Below.refl w9.heap.size w9) h.2.2.1⟩)) (rkf rfl f12 (fun h => (by obtain ⟨c, e, hh⟩ := h; exact ⟨c, e, res_keep' hh (Below.refl w9.heap.size w9) (lt_of_block hh)⟩)))), rkf rfl f0 (fun h => by first | exact h | exact rfl), rkf rfl f1 (fun h => by first | exact h | exact rfl), rkf rfl f2 (fun h => by first | exact h | exact rfl), rkf rfl f3 (fun h => by first | exact h | exact rfl), rkf rfl f4 (fun h => by first | exact h | exact rfl), rkf rfl f5 (fun h => by first | exact h | exact rfl), rkf rfl f6 (fun h => (by obtain ⟨g, e1, e2⟩ := h; exact ⟨g, e1, fun h15 => res_keep' (e2 (runupd rfl h15)) (Below.refl w9.heap.size w9) (lt_of_block (e2 (runupd rfl h15)))⟩)), rkf rfl f8 (fun h => by first | exact h | exact rfl), rkf rfl f9 (fun h => by first | exact h | exact rfl), rkf rfl f10 (fun h => by first | exact h | exact rfl), rnf (rfl)⟩
        case fin =>
          rintro d ac w9 ⟨x34, x35, x36, x37, x38, x39, x40, x41, x33, x42, x43, x7, x8, rfl, HB, HR, f0, f1, f2, f3, f4, f5, f6, f8, f9, f10, f13⟩ hall
          obtain ⟨e0x, e1x, gX, J, f7, f11, f12⟩ := HR.out
          have F7 := f7.out (hall 7)
          have F8 := f13.out (hall 13)
          have F11 := f11.out (hall 11)
          have F12 := f12.out (hall 12)
          obtain ⟨_, _, cl, e41, _, _, hrp⟩ := F7
          subst e41
          obtain ⟨cl', ecl, hh7⟩ := F12
          have ecl2 : Value.agg cl = Value.agg cl' := ecl
          injection ecl2 with ecl2
          subst ecl2
          have F82 : x8 = .int .i64 er := F8
          subst F82
          obtain ⟨rfl, _, _, _⟩ := F11
          have HB9 := hid (HB3.out.on HB.out HB3.out.size)
          have HH7 := hid hh7
          have HRP := hid hrp
          clear ecl F8 hall J f0 f1 f2 f3 f4 f5 f6 f7 f8 f9 f10 f11 f12 f13 HR HB HB3 hh7 hrp Q0 Q1 Q2 Q3 Q4 QL A0 A1 HBE CR
          obtain ⟨q0, q1, q2, q3, q4, qz, qlt, hbel⟩ := HB9.out.cells
          by_cases h0 : er = 0
          · subst h0
            obtain ⟨A2, R2, O2, c2, c3, c4, ev, hq2⟩ : ∃ A2 R2 O2 c2 c3 c4, Value.agg cl = qryV (mapQ (renF (zipF [n0, n1] [n1, n0])) ⟨hd, ga, av, rs, os⟩) A2 R2 O2 c2 c3 c4 ∧ QryIn w9 (mapQ (renF (zipF [n0, n1] [n1, n0])) ⟨hd, ga, av, rs, os⟩) A2 R2 O2 c2 c3 c4 := by
              rcases HRP.out with ⟨h1, _⟩ | ⟨_, A2, R2, O2, c2, c3, c4, ev, hq2⟩
              · exact absurd rfl h1
              · exact ⟨A2, R2, O2, c2, c3, c4, ev, hq2 w9 (fun _ _ _ => rfl)⟩
            have hren := ren_of HER.out
            obtain ⟨hz1, _, _, _, hz2⟩ := renE_zero HER.out
            have hx2 := checkT_ren (S := S) hz1 hz2 hren
            have hne := types_ne ⟨hd, ga, av, rs, os⟩ S
            rw [HX.out] at hx2 hne
            have hfw : (mapQ (renF (zipF [n0, n1] [n1, n0])) ⟨hd, ga, av, rs, os⟩).wf := map_wf HWF.out (fun v hv => renF_len (by
              intro s hs
              have hl0 := HL01.out
              simp only [List.mem_cons, List.not_mem_nil, or_false] at hs
              rcases hs with rfl | rfl
              · exact hl0.2
              · exact hl0.1) hv)
            have C4 := fun W h1 h2 => hid (chk_check (mapQ (renF (zipF [n0, n1] [n1, n0])) ⟨hd, ga, av, rs, os⟩) S A2 R2 O2 B c2 c3 c4 cs W h1 h2 hfw HWS.out hms hx2)
            obtain ⟨Y2, hY2, _, _⟩ := nm ((renF (zipF [n0, n1] [n1, n0])) av)
            unfold qryV at C4 ev
            simp only [mapQ, hY2, List.length_map] at C4 ev
            injection ev with ev
            subst ev
            have HQ2 := hid hq2
            have HNE := hid (show ∀ l ∈ tr, ∀ p ∈ l, p.1 ≠ [] from hne)
            have HC4 := hid C4
            have hswap := fun v (hv : v ≠ []) => swap_at n0 n1 v hv
            have HSW := hid hswap
            have hrl : tr.length ≤ 100000 := by
              have h := (checkT_few ⟨hd, ga, av, rs, os⟩ S).r
              rw [HX.out] at h; exact h
            have hvl0 : ∀ l ∈ tr, l.length ≤ 100000 := by
              have h := (checkT_few ⟨hd, ga, av, rs, os⟩ S).v
              rw [HX.out] at h; exact h
            have HVL := hid hvl0
            clear hren hz1 hz2 hx2 hne hfw C4 hY2 hq2 hswap hvl0 HRP
            go_wp2_with fail
            refine (C3 _ (HQ.out.below hbel) (HS.out.below hbel)).out.mono ?_
            rintro e w10 ⟨H2, R3, d2, d3, rfl, _, v2, _, _, b4⟩
            clear C3 q0 q1 q2 q3 q4 qz qlt
            have hb11 := b4.trans ((below_one w10 (.cells #[.slice H2 th.length d2, .slice R3 tr.length d3] 34)).mono b4.size)
            have HB11 := hid (HB9.out.on hb11 HB9.out.size)
            have hp11 := res_keep' HH7.out hb11 (lt_of_block HH7.out)
            have V2 := hid (v2.below (below_one w10 (.cells #[.slice H2 th.length d2, .slice R3 tr.length d3] 34)))
            have ht11 := heap_alloc_new w10 (.cells #[.slice H2 th.length d2, .slice R3 tr.length d3] 34)
            have HQ11 := hid (HQ2.out.below hb11)
            obtain ⟨p0, p1, p2, p3, p4, plt⟩ := rbox hp11
            have HT11 := hid ht11
            clear v2 b4 hb11 hp11 ht11 hbel HB9 HH7 HQ2
            go_upto_region 7 with fail
            generalize (w10.alloc (.cells #[.slice H2 th.length d2, .slice R3 tr.length d3] 34)) = w11 at *
            generalize w10.heap.size = g8 at *
            go_wp2_with fail
            refine (HC4.out _ HQ11.out (HS.out.below HB11.out.cells.2.2.2.2.2.2.2)).out.mono ?_
            rintro e w12 ⟨H3, R4, d4, d5, rfl, _, v3, _, _, b5⟩
            clear HC4 p0 p1 p2 p3 p4 plt HQ11
            have HB12 := hid (HB11.out.on b5 HB11.out.size)
            have V2' := hid (V2.out.below b5)
            have HT12 := hid (res_keep' HT11.out b5 (lt_of_block HT11.out))
            clear b5 HB11 V2 HT11
            simp only at v3
            simp only [List.length_map]
            have V3 := hid (v3.below (below_one w12 (.cells #[.slice H3 th.length d4, .slice R4 tr.length d5] 34)))
            have HB13 := hid (HB12.out.on (below_one w12 (.cells #[.slice H3 th.length d4, .slice R4 tr.length d5] 34)) HB12.out.size)
            have V2 := hid (V2'.out.below (below_one w12 (.cells #[.slice H3 th.length d4, .slice R4 tr.length d5] 34)))
            have ht8 := res_keep' HT12.out (below_one w12 (.cells #[.slice H3 th.length d4, .slice R4 tr.length d5] 34)) (lt_of_block HT12.out)
            have ht10 := heap_alloc_new w12 (.cells #[.slice H3 th.length d4, .slice R4 tr.length d5] 34)
            have HT8 := hid ht8
            have HT10 := hid ht10
            clear HB12 V2' HT12 v3
            go_upto_region 8 with fail
            generalize (w12.alloc (.cells #[.slice H3 th.length d4, .slice R4 tr.length d5] 34)) = w13 at *
            generalize w12.heap.size = g10 at *
            have t81 := rcell (o := 1) (v := .slice R3 tr.length d3) ht8 rfl
            have t11 := rcell (o := 1) (v := .slice R4 tr.length d5) ht10 rfl
            have l8 := lt_of_block ht8
            have l10 := lt_of_block ht10
            clear ht8 ht10
            go_wp2
            clear t81 t11 l8 l10
            have HB14 : Hid (Below w13.heap.size w13 w13) := hid (Below.refl _ _)
            go_loopw [74] (fun i wr => ∃ k : Nat, k ≤ tr.length ∧ i = .int .i64 k ∧ Hid (Below w13.heap.size w13 wr)) (fun i _ => tr.length - (intOf i).toNat)
            case atStart => exact ⟨0, by omega, rfl, HB14⟩
            case round =>
              clear HB14
              obtain ⟨i, hi, rfl, HBi⟩ := hrel
              rename World => wo
              have l8 : g8 < wo.heap.size := Nat.lt_of_lt_of_le (lt_of_block HT8.out) HBi.out.size
              have l10 : g10 < wo.heap.size := Nat.lt_of_lt_of_le (lt_of_block HT10.out) HBi.out.size
              have t81 := rcell (o := 1) (v := .slice R3 tr.length d3) (res_keep' HT8.out HBi.out (lt_of_block HT8.out)) rfl
              have t11 := rcell (o := 1) (v := .slice R4 tr.length d5) (res_keep' HT10.out HBi.out (lt_of_block HT10.out)) rfl
              by_cases hit : i < tr.length
              · obtain ⟨bR, oR, rfl, hra⟩ := V2.out (by omega)
                obtain ⟨bS, oS, rfl, hrb⟩ := V3.out (by rw [List.length_map]; omega)
                obtain ⟨Ta, ca, ra, va, _⟩ := hra i hit
                obtain ⟨Tb, cb, rb, vb, _⟩ := hrb i (by rw [List.length_map]; exact hit)
                rw [List.getElem_map] at rb vb
                have hne := HNE.out tr[i] (List.getElem_mem hit)
                have hlm := HVL.out tr[i] (List.getElem_mem hit)
                obtain ⟨l1, e1⟩ : ∃ l, tr[i] = l := ⟨_, rfl⟩
                rw [e1] at ra va rb vb hne hlm
                have hml : (mapE (renF (zipF [n0, n1] [n1, n0])) l1).length = l1.length := by unfold mapE; rw [List.length_map]
                rw [hml] at rb
                have RA := hid ra
                have RB := hid rb
                have VA := hid va
                have VBB := hid vb
                have HNE1 := hid hne
                have HML := hid hml
                have ra' := cell_keep HBi.out ra
                have rb' := cell_keep HBi.out rb
                clear hra hrb ra rb va vb hne e1 hml
                go_wp2
                go_quiet (fail)
                have HBd := hid (below_drewN HBi.out nq)
                have t81 := rcell (o := 1) (v := .slice (some ⟨bR, oR, none⟩) tr.length d3) (res_keep' HT8.out HBd.out (lt_of_block HT8.out)) rfl
                have ra' := cell_keep HBd.out RA.out
                go_wp2
                clear t81 ra' rb' t11
                go_loopw [96] (fun j wr => ∃ j' : Nat, j' ≤ l1.length ∧ j = .int .i64 j' ∧ Hid (Below w13.heap.size w13 wr)) (fun j _ => l1.length - (intOf j).toNat)
                case atStart => exact ⟨0, by omega, rfl, HBd⟩
                case round =>
                  clear HBd
                  obtain ⟨j, hj, rfl, HBj⟩ := hrel
                  by_cases hjt : j < l1.length
                  · obtain ⟨bv, ov, rfl, hcv⟩ := VA.out (by omega)
                    obtain ⟨bu, ou, rfl, hcu⟩ := VBB.out (by rw [HML.out]; omega)
                    obtain ⟨g0, g1⟩ := hcv j hjt
                    obtain ⟨u0, u1⟩ := hcu j (by rw [HML.out]; exact hjt)
                    have hpe : (mapE (renF (zipF [n0, n1] [n1, n0])) l1)[j]'(by rw [HML.out]; exact hjt) = ((renF (zipF [n0, n1] [n1, n0])) l1[j].1, l1[j].2) := by unfold mapE; rw [List.getElem_map]
                    rw [hpe] at u0 u1
                    have hv0 := HNE1.out l1[j] (List.getElem_mem hjt)
                    obtain ⟨p, ep⟩ : ∃ p, l1[j] = p := ⟨_, rfl⟩
                    rw [ep] at g0 g1 u0 u1 hv0
                    obtain ⟨v, kd⟩ := p
                    simp only at g0 g1 u0 u1 hv0
                    have hsw := HSW.out v hv0
                    have hqz := HB13.out.cells.2.2.2.2.2.1
                    obtain ⟨a0, a1⟩ := rcell2 hqz
                    have HA0 := hid a0
                    have HA1 := hid a1
                    have HQL := hid (lt_of_block hqz)
                    have U0 := hid u0
                    have U1 := hid u1
                    clear hcv hcu hpe ep u0 u1 hqz a0 a1
                    replace g0 := cell_keep HBj.out g0
                    replace g1 := cell_keep HBj.out g1
                    by_cases h0 : v = n0
                    · rw [h0, HN0.out.1] at g0
                      have b0 : (N0.toList == N0.toList) = true := by simp
                      have h1 := below_one wr (.cells #[.string N0, .int .i64 kd] 65)
                      have hbx := heap_alloc_new wr (.cells #[.string N0, .int .i64 kd] 65)
                      have HB5 := hid (HBj.out.trans (h1.mono HBj.out.size))
                      have hsz := HBj.out.size
                      have a0 := cell_keep HB5.out HA0.out
                      have a1 := cell_keep HB5.out HA1.out
                      obtain ⟨v0, v1⟩ := rcell2 hbx
                      have bl := lt_of_block hbx
                      have HBX := hid hbx
                      have ql := Nat.lt_of_lt_of_le HQL.out HB5.out.size
                      clear hbx h1
                      go_upto_region 18 with fail
                      clear g0 g1
                      obtain ⟨g15, hg15⟩ : ∃ g, wr.heap.size = g := ⟨_, rfl⟩
                      have hg13 : w13.heap.size ≤ g15 := by omega
                      rw [hg15] at v0 v1 bl HBX
                      simp only [hg15]
                      clear hg15 hsz
                      generalize (wr.alloc (.cells #[.string N0, .int .i64 kd] 65)) = wb at *
                      have fz : wb.frozen? ⟨g15, 0, none⟩ = false := by simp [World.frozen?, HBX.out]
                      go_upto_region 23 with fail
                      have HBX2 := hid (heap_setCell_same wb g15 0 _ _ (.string N1) HBX.out)
                      have HB6 := hid (HB5.out.setCell (p := ⟨g15, 0, none⟩) hg13 (.string N1))
                      generalize (wb.setCell ⟨g15, 0, none⟩ (.string N1)) = wc at *
                      clear v0 v1 bl fz a0 a1 ql
                      obtain ⟨v0, v1⟩ := rcell2 HBX2.out
                      have bl := lt_of_block HBX2.out
                      have t11 := rcell (o := 1) (v := .slice (some ⟨bS, oS, none⟩) tr.length d5) (res_keep' HT10.out HB6.out (lt_of_block HT10.out)) rfl
                      have rb' := cell_keep HB6.out RB.out
                      have u0 := cell_keep HB6.out U0.out
                      have u1 := cell_keep HB6.out U1.out
                      have l10 : g10 < wc.heap.size := Nat.lt_of_lt_of_le (lt_of_block HT10.out) HB6.out.size
                      rw [hsw, if_pos h0, HN1.out.1] at u0
                      have heq := fun w => eq_var N1 kd w
                      have hgv := guardVar
                      go_quiet (fail)
                      have HB2 := hid (below_drewN HB6.out nq)
                      go_wp2
                      go_roundw
                      case rel => exact ⟨j + 1, by omega, (by first | rfl | go_num), HB2⟩
                      case measure => simp [intOf]; omega
                    · by_cases h1 : v = n1
                      · rw [h1, HN1.out.1] at g0
                        have b0 : (N1.toList == N0.toList) = false := by rw [HN1.out.2.2, HN0.out.2.2, ← h1]; simpa using h0
                        have b1 : (N1.toList == N1.toList) = true := by simp
                        have h1 := below_one wr (.cells #[.string N1, .int .i64 kd] 65)
                        have hbx := heap_alloc_new wr (.cells #[.string N1, .int .i64 kd] 65)
                        have HB5 := hid (HBj.out.trans (h1.mono HBj.out.size))
                        have hsz := HBj.out.size
                        have a0 := cell_keep HB5.out HA0.out
                        have a1 := cell_keep HB5.out HA1.out
                        obtain ⟨v0, v1⟩ := rcell2 hbx
                        have bl := lt_of_block hbx
                        have HBX := hid hbx
                        have ql := Nat.lt_of_lt_of_le HQL.out HB5.out.size
                        clear hbx h1
                        go_upto_region 18 with fail
                        clear g0 g1
                        obtain ⟨g15, hg15⟩ : ∃ g, wr.heap.size = g := ⟨_, rfl⟩
                        have hg13 : w13.heap.size ≤ g15 := by omega
                        rw [hg15] at v0 v1 bl HBX
                        simp only [hg15]
                        clear hg15 hsz
                        generalize (wr.alloc (.cells #[.string N1, .int .i64 kd] 65)) = wb at *
                        have fz : wb.frozen? ⟨g15, 0, none⟩ = false := by simp [World.frozen?, HBX.out]
                        go_upto_region 23 with fail
                        have HBX2 := hid (heap_setCell_same wb g15 0 _ _ (.string N0) HBX.out)
                        have HB6 := hid (HB5.out.setCell (p := ⟨g15, 0, none⟩) hg13 (.string N0))
                        generalize (wb.setCell ⟨g15, 0, none⟩ (.string N0)) = wc at *
                        clear v0 v1 bl fz a0 a1 ql
                        obtain ⟨v0, v1⟩ := rcell2 HBX2.out
                        have bl := lt_of_block HBX2.out
                        have t11 := rcell (o := 1) (v := .slice (some ⟨bS, oS, none⟩) tr.length d5) (res_keep' HT10.out HB6.out (lt_of_block HT10.out)) rfl
                        have rb' := cell_keep HB6.out RB.out
                        have u0 := cell_keep HB6.out U0.out
                        have u1 := cell_keep HB6.out U1.out
                        have l10 : g10 < wc.heap.size := Nat.lt_of_lt_of_le (lt_of_block HT10.out) HB6.out.size
                        rw [hsw, if_neg h0, if_pos h1, HN0.out.1] at u0
                        have heq := fun w => eq_var N0 kd w
                        have hgv := guardVar
                        go_quiet (fail)
                        have HB2 := hid (below_drewN HB6.out nq)
                        go_wp2
                        go_roundw
                        case rel => exact ⟨j + 1, by omega, (by first | rfl | go_num), HB2⟩
                        case measure => simp [intOf]; omega
                      · obtain ⟨Z, hZ, _, hZl⟩ := nm v
                        rw [hZ] at g0
                        have b0 : (Z.toList == N0.toList) = false := by rw [hZl, HN0.out.2.2]; simpa using h0
                        have b1 : (Z.toList == N1.toList) = false := by rw [hZl, HN1.out.2.2]; simpa using h1
                        have HZ := hid hZ
                        clear hZ hZl
                        have h1 := below_one wr (.cells #[.string Z, .int .i64 kd] 65)
                        have hbx := heap_alloc_new wr (.cells #[.string Z, .int .i64 kd] 65)
                        have HB5 := hid (HBj.out.trans (h1.mono HBj.out.size))
                        have hsz := HBj.out.size
                        have a0 := cell_keep HB5.out HA0.out
                        have a1 := cell_keep HB5.out HA1.out
                        obtain ⟨v0, v1⟩ := rcell2 hbx
                        have bl := lt_of_block hbx
                        have HBX := hid hbx
                        have ql := Nat.lt_of_lt_of_le HQL.out HB5.out.size
                        clear hbx h1
                        go_upto_region 18 with fail
                        clear g0 g1
                        obtain ⟨g15, hg15⟩ : ∃ g, wr.heap.size = g := ⟨_, rfl⟩
                        have hg13 : w13.heap.size ≤ g15 := by omega
                        rw [hg15] at v0 v1 bl HBX
                        simp only [hg15]
                        clear hg15 hsz
                        generalize (wr.alloc (.cells #[.string Z, .int .i64 kd] 65)) = wb at *
                        have fz : wb.frozen? ⟨g15, 0, none⟩ = false := by simp [World.frozen?, HBX.out]
                        go_upto_region 23 with fail
                        have HBX2 := HBX
                        have HB6 := HB5
                        obtain ⟨wc, hwc⟩ : ∃ x, wb = x := ⟨_, rfl⟩
                        subst hwc
                        clear v0 v1 bl fz a0 a1 ql
                        obtain ⟨v0, v1⟩ := rcell2 HBX2.out
                        have bl := lt_of_block HBX2.out
                        have t11 := rcell (o := 1) (v := .slice (some ⟨bS, oS, none⟩) tr.length d5) (res_keep' HT10.out HB6.out (lt_of_block HT10.out)) rfl
                        have rb' := cell_keep HB6.out RB.out
                        have u0 := cell_keep HB6.out U0.out
                        have u1 := cell_keep HB6.out U1.out
                        have l10 : g10 < wb.heap.size := Nat.lt_of_lt_of_le (lt_of_block HT10.out) HB6.out.size
                        rw [hsw, if_neg h0, if_neg h1, HZ.out] at u0
                        clear b0 b1 h0 h1 hsw hv0
                        have heq := fun w => eq_var Z kd w
                        have hgv := guardVar
                        go_quiet (fail)
                        have HB2 := hid (below_drewN HB6.out nq)
                        go_wp2
                        go_roundw
                        case rel => exact ⟨j + 1, by omega, (by first | rfl | go_num), HB2⟩
                        case measure => simp [intOf]; omega
                  · go_wp2
                    go_roundw
                    case rel => exact ⟨i + 1, by omega, (by first | rfl | go_num), HBj⟩
                    case measure => simp [intOf]; omega
              · have hbk := (HB13.out.on HBi.out HB13.out.size).cells.2.2.2.2.2.2.2
                clear t81 t11
                go_wp2_with fail
                refine (AW _).out.mono ?_
                rintro e w9 ⟨rfl, b9⟩
                have hb9 := hbk.trans (b9.mono hbk.size)
                clear b9
                go_wp2
                go_ret
                exact ⟨rfl, hb9⟩
          · have bq : (er != 0) = true := by simpa using h0
            go_wp2_with fail
            refine (AW _).out.mono ?_
            rintro e w9 ⟨rfl, b9⟩
            have hb9 := hbel.trans (b9.mono hbel.size)
            clear b9
            go_wp2
            go_ret
            exact ⟨rfl, hb9⟩
end Go.Proofs.Ytgeapgbebbapmaa
