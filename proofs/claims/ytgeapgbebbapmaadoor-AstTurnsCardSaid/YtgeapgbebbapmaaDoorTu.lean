/-
  PLAIN: the names of a query put out of use and back. For the law AstTurns.
-/
import Derived.Test.YtgeapgbebbapmaaDoorMv
namespace Go.Proofs.YtgeapgbebbapmaaDoor

/-- All names of the rules, in the order of their first occurrences. -/
def allQ (l : List Rul) : List Str := (l.flatMap varsL).foldl addN []
/-- The j-th fresh name. -/
def frL (j : Nat) : Str := [90, 95, UInt8.ofNat (97 + (j + 1) / 8), UInt8.ofNat (97 + (j + 1) % 8)]
def freshL (n : Nat) : List Str := (List.range n).map frL
theorem freshL_len (n : Nat) : (freshL n).length = n := by simp [freshL]
theorem freshL_succ (n : Nat) : freshL (n + 1) = freshL n ++ [frL n] := by simp [freshL, List.range_succ]
theorem frL_inj {i j : Nat} (hi : i < 24) (hj : j < 24) (h : frL i = frL j) : i = j := by
  have key : ∀ i : Fin 24, ∀ j : Fin 24, frL i.val = frL j.val → i.val = j.val := by decide +kernel
  exact key ⟨i, hi⟩ ⟨j, hj⟩ h
theorem frL_name {j : Nat} (hj : j < 24) : nameB (frL j) = true := by
  have key : ∀ j : Fin 24, nameB (frL j.val) = true := by decide +kernel
  exact key ⟨j, hj⟩
theorem freshL_nodup {n : Nat} (h : n ≤ 24) : (freshL n).Nodup := by
  unfold freshL
  rw [List.nodup_iff_pairwise_ne, List.pairwise_map]
  refine (List.pairwise_iff_getElem).2 fun i j hi hj hij e => ?_
  simp only [List.length_range] at hi hj
  simp only [List.getElem_range] at e
  have := frL_inj (by omega) (by omega) e
  omega
theorem freshL_name {n : Nat} (h : n ≤ 24) : ∀ v ∈ freshL n, nameB v = true := by
  intro v hv
  obtain ⟨j, hj, rfl⟩ := List.mem_map.1 hv
  exact frL_name (by have := List.mem_range.1 hj; omega)
/-- Growth of the list of names. -/
theorem addN_nodup {acc : List Str} {v : Str} (h : acc.Nodup) : (addN acc v).Nodup := by
  unfold addN
  split
  · exact h
  · rename_i g
    rw [List.nodup_append]
    exact ⟨h, by simp, fun a ha b hb => by rw [List.mem_singleton] at hb; subst hb; rintro rfl; exact g (.inr ha)⟩
theorem foldN_nodup : ∀ {l acc : List Str}, acc.Nodup → (l.foldl addN acc).Nodup
  | [], _, h => h
  | v :: l, acc, h => by rw [List.foldl_cons]; exact foldN_nodup (addN_nodup h)
theorem foldN_len : ∀ (l acc : List Str), (l.foldl addN acc).length ≤ acc.length + l.length
  | [], acc => by simp
  | v :: l, acc => by
    have h1 := foldN_len l (addN acc v)
    have h2 : (addN acc v).length ≤ acc.length + 1 := by unfold addN; split <;> simp
    simp only [List.foldl_cons, List.length_cons] at *
    omega
theorem allQ_in {l : List Rul} {x : Str} : x ∈ allQ l ↔ ∃ r ∈ l, x ∈ varsL r := by
  unfold allQ
  rw [addNs_in]
  simp only [List.not_mem_nil, false_or, List.mem_flatMap]
  constructor
  · exact fun h => h.1
  · rintro ⟨r, hr, hx⟩
    exact ⟨⟨r, hr, hx⟩, (vars_in.1 hx).2⟩
theorem allQ_nodup (l : List Rul) : (allQ l).Nodup := foldN_nodup (by simp)
theorem flat_len8 : ∀ {l : List Rul}, (∀ r ∈ l, (varsL r).length ≤ 8) → (l.flatMap varsL).length ≤ l.length * 8
  | [], _ => by simp
  | r :: l, h => by
    rw [List.flatMap_cons, List.length_append, List.length_cons]
    have h1 := h r (List.mem_cons_self ..)
    have h2 := flat_len8 fun x hx => h x (List.mem_cons_of_mem r hx)
    omega
theorem allQ_few {q : Qry} (h : checkQ q = 0) : (allQ q.rules).length ≤ 24 := by
  have h1 := foldN_len (q.rules.flatMap varsL) []
  have h2 := flat_len8 (l := q.rules) fun r hr => check_vars h hr
  have h3 := (check_few h).1.2
  unfold allQ
  simp only [List.length_nil] at h1
  omega
/-- Steps of the walk. -/
theorem all_rule {l : List Rul} {k : Nat} (h : k < l.length) (acc : List Str) : ((l.drop k).flatMap varsL).foldl addN acc = ((l.drop (k + 1)).flatMap varsL).foldl addN ((varsL l[k]).foldl addN acc) := by
  rw [List.drop_eq_getElem_cons h, List.flatMap_cons, List.foldl_append]
theorem all_name {l : List Str} {j : Nat} (h : j < l.length) (acc : List Str) : (l.drop j).foldl addN acc = (l.drop (j + 1)).foldl addN (addN acc l[j]) := by
  rw [List.drop_eq_getElem_cons h, List.foldl_cons]

/-- Where a name stands in a valid query. -/
theorem need_in {q : Qry} (h : checkQ q = 0) {v : Str} (hv : v ∈ needL q) : v ∈ allQ q.rules := by
  have h0 : q.rules ≠ [] := (check_parts h).1
  match hr : q.rules, h0 with
  | r :: l, _ =>
    have hm : r ∈ q.rules := by rw [hr]; exact List.mem_cons_self ..
    rcases head_in h hv hm with e | e
    · exact absurd e (need_ne (check_parts h).2.2.2.1 v hv |> fun x => x)
    · rw [← hr]; exact allQ_in.2 ⟨r, hm, e⟩
theorem rule_bound_of {q : Qry} {r : Rul} (h : ruleE q r = 0) : itemsE r = 0 ∧ (varsL r).length ≤ 8 ∧ ∀ v ∈ needL q ++ varsL r, boundB r v = true := by
  unfold ruleE at h
  by_cases hi : itemsE r = 0
  · rw [if_pos hi] at h
    by_cases hm : 8 < (varsL r).length
    · rw [if_pos hm] at h; exact absurd h (by decide)
    · rw [if_neg hm] at h
      by_cases hb : ((needL q ++ varsL r).all (boundB r)) = true
      · exact ⟨hi, by omega, fun v hv => List.all_eq_true.1 hb v hv⟩
      · rw [if_neg hb] at h; exact absurd h (by decide)
  · rw [if_neg hi] at h; exact absurd h hi
/-- f keeps the names of q apart and makes names of them. -/
structure Good (f : Str → Str) (q : Qry) : Prop where
  nil : f [] = []
  nm : ∀ v ∈ allQ q.rules, nameB (f v) = true
  inj : ∀ x ∈ allQ q.rules, ∀ y ∈ allQ q.rules, f x = f y → x = y
section
variable {f : Str → Str} {q : Qry}
theorem Good.ren (h : Good f q) {r : Rul} (hr : r ∈ q.rules) : Ren f (inR r) := by
  refine ⟨h.nil, .inl rfl, fun x y hx hy e => ?_⟩
  have mem : ∀ {x}, x ∈ varsL r → x ∈ allQ q.rules := fun hx => allQ_in.2 ⟨r, hr, hx⟩
  rcases hx with rfl | hx
  · rcases hy with rfl | hy
    · rfl
    · rw [h.nil] at e
      exact absurd e.symm (nameB_ne (h.nm _ (mem hy)))
  · rcases hy with rfl | hy
    · rw [h.nil] at e
      exact absurd e (nameB_ne (h.nm _ (mem hx)))
    · exact h.inj _ (mem hx) _ (mem hy) e
theorem firstE_of {α : Type} {g : α → Int} : ∀ {l : List α}, (∀ x ∈ l, g x = 0) → firstE g l = 0
  | [], _ => rfl
  | x :: l, h => by
    rw [firstE, if_pos (h x (List.mem_cons_self ..))]
    exact firstE_of fun y hy => h y (List.mem_cons_of_mem _ hy)
theorem atom_parts {a : Atm} (h : atomE a = 0) : nameB a.rel = true ∧ a.ts.length ≤ 6 ∧ ∀ t ∈ a.ts, termE t = 0 := by
  unfold atomE at h
  by_cases k0 : nameB a.rel = false
  · rw [if_pos k0] at h; exact absurd h (by decide)
  rw [if_neg k0] at h
  by_cases k1 : 6 < a.ts.length
  · rw [if_pos k1] at h; exact absurd h (by decide)
  rw [if_neg k1] at h
  exact ⟨by simpa using k0, by omega, firstE_zero h⟩
theorem items_parts {r : Rul} (h : itemsE r = 0) : r.atoms ≠ [] ∧ r.atoms.length ≤ 8 ∧ r.conds.length ≤ 8 ∧ (∀ a ∈ r.atoms, atomE a = 0) ∧ ∀ c ∈ r.conds, condE c = 0 := by
  unfold itemsE at h
  by_cases g0 : r.atoms = []
  · rw [if_pos g0] at h; exact absurd h (by decide)
  rw [if_neg g0] at h
  by_cases g1 : 8 < r.atoms.length ∨ 8 < r.conds.length
  · rw [if_pos g1] at h; exact absurd h (by decide)
  rw [if_neg g1] at h
  by_cases g2 : firstE atomE r.atoms = 0
  · rw [if_pos g2] at h
    exact ⟨g0, by omega, by omega, firstE_zero g2, firstE_zero h⟩
  · rw [if_neg g2] at h; exact absurd h g2
theorem good_atom (h : Good f q) {r : Rul} (hr : r ∈ q.rules) {a : Atm} (ha : a ∈ r.atoms) (h0 : atomE a = 0) : atomE (mapA f a) = 0 := by
  obtain ⟨h1, h2, h3⟩ := atom_parts h0
  unfold atomE
  rw [if_neg (by show ¬ nameB a.rel = false; rw [h1]; decide), if_neg (by show ¬ 6 < (a.ts.map (mapT f)).length; rw [List.length_map]; omega)]
  show firstE termE (a.ts.map (mapT f)) = 0
  rw [firstE_map (q := fun _ => (0 : Int)) fun t ht => ?_]
  · exact firstE_of fun _ _ => rfl
  · have ht0 := h3 t ht
    by_cases hv : t.v = []
    · have : mapT f t = t := by
        obtain ⟨tv, tc⟩ := t
        simp only at hv
        subst hv
        unfold mapT; rw [h.nil]
      rw [this]; exact ht0
    · have hn : nameB (f t.v) = true := h.nm _ (allQ_in.2 ⟨r, hr, by
        rcases inR_atom ha t ht with e | e
        · exact absurd e hv
        · exact e⟩)
      unfold termE at ht0 ⊢
      rw [if_neg hv] at ht0
      rw [if_neg (show ¬ (mapT f t).v = [] from nameB_ne hn), if_neg (by show ¬ nameB (f t.v) = false; rw [hn]; decide)]
      split at ht0
      · exact absurd ht0 (by decide)
      · exact ht0
theorem good_cond (h : Good f q) {r : Rul} (hr : r ∈ q.rules) {c : Cnd} (hc : c ∈ r.conds) (h0 : condE c = 0) : condE (mapC f c) = 0 := by
  have hn : nameB (f c.v) = true := h.nm _ (allQ_in.2 ⟨r, hr, by
    rcases inR_cond hc with e | e
    · exact absurd e (nameB_ne (condE_var h0))
    · exact e⟩)
  unfold condE at h0 ⊢
  rw [if_neg (by show ¬ nameB (f c.v) = false; rw [hn]; decide)]
  split at h0
  · exact absurd h0 (by decide)
  · exact h0
theorem good_bound (h : Good f q) {r : Rul} (hr : r ∈ q.rules) {v : Str} (hv : inR r v) : boundB (mapR f r) (f v) = boundB r v := by
  unfold boundB
  show (r.atoms.map (mapA f)).any _ = _
  rw [List.any_map, Bool.eq_iff_iff, List.any_eq_true, List.any_eq_true]
  have key : ∀ a ∈ r.atoms, (((fun a : Atm => !a.neg && a.ts.any fun t => t.v == f v) ∘ mapA f) a) = (!a.neg && a.ts.any fun t => t.v == v) := by
    intro a ha
    simp only [Function.comp, mapA, List.any_map]
    congr 1
    rw [Bool.eq_iff_iff, List.any_eq_true, List.any_eq_true]
    constructor
    · rintro ⟨t, ht, e⟩
      exact ⟨t, ht, by rw [← (h.ren hr).beq (inR_atom ha t ht) hv]; exact e⟩
    · rintro ⟨t, ht, e⟩
      exact ⟨t, ht, by
        have := (h.ren hr).beq (inR_atom ha t ht) hv
        exact this.trans e⟩
  constructor
  · rintro ⟨a, ha, e⟩; exact ⟨a, ha, by rw [← key a ha]; exact e⟩
  · rintro ⟨a, ha, e⟩; exact ⟨a, ha, by rw [key a ha]; exact e⟩
theorem need_map (h : Good f q) (h0 : checkQ q = 0) : needL (mapQ f q) = (needL q).map f := by
  unfold needL
  show q.head.map f ++ (if f q.aggVar = [] then [] else [f q.aggVar]) = _
  by_cases ha : q.aggVar = []
  · rw [if_pos ha, if_pos (by rw [ha, h.nil])]; simp
  · have hm : q.aggVar ∈ needL q := by unfold needL; rw [if_neg ha]; simp
    rw [if_neg ha, if_neg (nameB_ne (h.nm _ (need_in h0 hm))), List.map_append]; rfl
theorem headGo_of : ∀ {l pre : List Str}, (∀ v ∈ l, nameB v = true) → (pre ++ l).Nodup → headGo pre l = 0
  | [], _, _, _ => rfl
  | v :: l, pre, h1, h2 => by
    unfold headGo
    have hv : v ∉ pre := fun hm => (List.nodup_append.1 h2).2.2 v hm v (List.mem_cons_self ..) rfl
    rw [if_neg (by rw [h1 v (List.mem_cons_self ..)]; decide), if_neg hv]
    exact headGo_of (fun x hx => h1 x (List.mem_cons_of_mem _ hx)) (by rw [List.append_assoc]; exact h2)
theorem orderGo_map {hd : List Str} (hi : ∀ x ∈ hd, ∀ y ∈ hd, f x = f y → x = y) : ∀ {l : List Ky} {pre : List Str}, (∀ x ∈ pre, x ∈ hd) → orderGo hd pre l = 0 → orderGo (hd.map f) (pre.map f) (l.map (mapKy f)) = 0
  | [], _, _, _ => rfl
  | k :: l, pre, hp, h => by
    unfold orderGo at h
    split at h
    · rename_i hm
      split at h
      · exact absurd h (by decide)
      · rename_i hn
        rw [List.map_cons, orderGo, if_pos (show (mapKy f k).v ∈ hd.map f from List.mem_map.2 ⟨k.v, hm, rfl⟩), if_neg (by
          intro hh
          obtain ⟨x, hx, e⟩ := List.mem_map.1 hh
          exact hn (by rw [← hi x (hp x hx) k.v hm e]; exact hx))]
        have := orderGo_map hi (l := l) (pre := pre ++ [k.v]) (fun x hx => by
          rcases List.mem_append.1 hx with hx | hx
          · exact hp x hx
          · rw [List.mem_singleton] at hx; subst hx; exact hm) h
        rw [List.map_append] at this
        exact this
    · exact absurd h (by decide)
/-- A good renaming leaves a valid query valid. -/
theorem good_check (h : Good f q) (h0 : checkQ q = 0) : checkQ (mapQ f q) = 0 := by
  obtain ⟨p1, p2, p3, p4, p5, p6, p7⟩ := check_parts h0
  obtain ⟨e1, e2, e3⟩ := headE_zero p4
  have hin : ∀ v ∈ q.head, v ∈ allQ q.rules := fun v hv => need_in h0 (List.mem_append_left _ hv)
  have hhn : (q.head.map f).Nodup := by
    rw [List.nodup_iff_pairwise_ne, List.pairwise_map]
    refine (List.nodup_iff_pairwise_ne.1 e3).imp_of_mem ?_
    intro a b ha hb hab e
    exact hab (h.inj a (hin a ha) b (hin b hb) e)
  have c1 : headE (mapQ f q).head = 0 := by
    show headE (q.head.map f) = 0
    unfold headE
    rw [if_neg (by rw [List.length_map]; omega)]
    exact headGo_of (fun v hv => by
      obtain ⟨x, hx, rfl⟩ := List.mem_map.1 hv
      exact h.nm x (hin x hx)) (by simpa using hhn)
  have c2 : aggE (mapQ f q) = 0 := by
    unfold aggE at p5 ⊢
    show (if q.agg = 0 ∨ q.agg = 1 then (if f q.aggVar = [] then 0 else 1) else if q.agg = 2 ∨ q.agg = 3 ∨ q.agg = 4 then (if nameB (f q.aggVar) = true then 0 else 7) else 2) = (0 : Int)
    by_cases g1 : q.agg = 0 ∨ q.agg = 1
    · rw [if_pos g1] at p5 ⊢
      have : q.aggVar = [] := by
        split at p5
        · assumption
        · exact absurd p5 (by decide)
      rw [if_pos (by rw [this, h.nil])]
    · rw [if_neg g1] at p5 ⊢
      by_cases g2 : q.agg = 2 ∨ q.agg = 3 ∨ q.agg = 4
      · rw [if_pos g2] at p5 ⊢
        have hn : nameB q.aggVar = true := by
          split at p5
          · assumption
          · exact absurd p5 (by decide)
        rw [if_pos (h.nm _ (need_in h0 (by unfold needL; rw [if_neg (nameB_ne hn)]; simp)))]
      · rw [if_neg g2] at p5; exact absurd p5 (by decide)
  have c3 : firstE (ruleE (mapQ f q)) (mapQ f q).rules = 0 := by
    refine firstE_of fun r' hr' => ?_
    obtain ⟨r, hr, rfl⟩ := List.mem_map.1 hr'
    obtain ⟨i1, i2, i3⟩ := rule_bound_of (firstE_zero p6 r hr)
    obtain ⟨j1, j2, j3, j4, j5⟩ := items_parts i1
    have k1 : itemsE (mapR f r) = 0 := by
      unfold itemsE
      rw [if_neg (by show ¬ r.atoms.map (mapA f) = []; simpa using j1), if_neg (by show ¬ (8 < (r.atoms.map (mapA f)).length ∨ 8 < (r.conds.map (mapC f)).length); rw [List.length_map, List.length_map]; omega)]
      have g : firstE atomE (mapR f r).atoms = 0 := firstE_of fun a ha => by
        obtain ⟨a0, ha0, rfl⟩ := List.mem_map.1 ha
        exact good_atom h hr ha0 (j4 a0 ha0)
      rw [if_pos g]
      exact firstE_of fun c hc => by
        obtain ⟨c0, hc0, rfl⟩ := List.mem_map.1 hc
        exact good_cond h hr hc0 (j5 c0 hc0)
    have k2 := ren_vars (h.ren hr)
    refine rule_bound k1 (by rw [k2, List.length_map]; omega) ?_
    rw [need_map h h0, k2, ← List.map_append, List.all_map, List.all_eq_true]
    intro v hv
    show boundB (mapR f r) (f v) = true
    rw [good_bound h hr]
    · exact i3 v hv
    · rcases List.mem_append.1 hv with hv | hv
      · exact head_in h0 hv hr
      · exact .inr hv
  have c4 : orderE (mapQ f q) = 0 := by
    have := orderGo_map (f := f) (hd := q.head) (fun x hx y hy e => h.inj x (hin x hx) y (hin y hy) e) (l := q.order) (pre := []) (fun x hx => by cases hx) p7
    exact this
  unfold checkQ
  rw [if_neg (by show ¬ q.rules.map (mapR f) = []; simpa using p1), if_neg (by show ¬ (3 < (q.rules.map (mapR f)).length ∨ (1 < (q.rules.map (mapR f)).length ∧ q.agg ≠ 0)); rw [List.length_map]; omega), if_neg (by rw [c1]; decide), if_neg (by rw [c2]; decide), if_neg (by rw [c3]; decide), c4]
theorem good_ren {fr tos : List Str} (h : Good (renF (zipF fr tos)) q) (h0 : checkQ q = 0) (hl : fr.length = tos.length) (hn : fr.Nodup) : renE q fr tos = 0 := by
  rw [renE_end h0 hl hn, good_check h h0]
  intro i hi
  have hr := List.getElem_mem hi
  have hv : (varsL q.rules[i]).Nodup := foldN_nodup (by simp)
  rw [List.nodup_iff_pairwise_ne, List.pairwise_map]
  refine (List.nodup_iff_pairwise_ne.1 hv).imp_of_mem ?_
  intro a b ha hb hab e
  exact hab (h.inj a (allQ_in.2 ⟨_, hr, ha⟩) b (allQ_in.2 ⟨_, hr, hb⟩) e)
end
theorem zipF_at {fr tos : List Str} (hn : fr.Nodup) {i : Nat} (hi : i < fr.length) (hj : i < tos.length) : zipF fr tos fr[i] = some tos[i] := by
  unfold zipF
  have hm : (fr[i], tos[i]) ∈ fr.zip tos := by
    rw [List.mem_iff_getElem]
    exact ⟨i, by simp; omega, by simp⟩
  have hs : ((fr.zip tos).find? fun p => p.1 == fr[i]).isSome = true := by
    rw [List.find?_isSome]; exact ⟨_, hm, by simp⟩
  obtain ⟨p, hp⟩ := Option.isSome_iff_exists.1 hs
  have h1 := List.find?_some hp
  have h2 := List.mem_of_find?_eq_some hp
  obtain ⟨k, hk, e⟩ := List.mem_iff_getElem.1 h2
  rw [hp]
  simp only [Option.map_some, Option.some.injEq]
  have hk' : k < fr.length ∧ k < tos.length := by simp at hk; omega
  rw [List.getElem_zip] at e
  subst e
  simp only [beq_iff_eq] at h1
  have : k = i := by
    have h3 := List.nodup_iff_pairwise_ne.1 hn
    rw [List.pairwise_iff_getElem] at h3
    rcases Nat.lt_trichotomy k i with h | h | h
    · exact absurd h1 (h3 k i hk'.1 hi h)
    · exact h
    · exact absurd h1.symm (h3 i k hi hk'.1 h)
  subst this
  rfl
theorem renF_at {fr tos : List Str} (hn : fr.Nodup) {i : Nat} (hi : i < fr.length) (hj : i < tos.length) (h0 : fr[i] ≠ []) : renF (zipF fr tos) fr[i] = tos[i] := by
  unfold renF
  rw [if_neg h0, zipF_at hn hi hj]; rfl
theorem renF_nil (F : Str → Option Str) : renF F [] = [] := by unfold renF; rw [if_pos rfl]
section
variable {q : Qry} {n : Nat}
theorem turn_at (h0 : checkQ q = 0) {v : Str} (hv : v ∈ allQ q.rules) : ∃ i, ∃ hi : i < (allQ q.rules).length, (allQ q.rules)[i] = v ∧ renF (zipF (allQ q.rules) (freshL (allQ q.rules).length)) v = frL i ∧ frL i ∈ freshL (allQ q.rules).length ∧ renF (zipF (freshL (allQ q.rules).length) (allQ q.rules)) (frL i) = v := by
  obtain ⟨i, hi, rfl⟩ := List.getElem_of_mem hv
  have hne : (allQ q.rules)[i] ≠ [] := by
    obtain ⟨r, _, hx⟩ := allQ_in.1 hv
    exact (vars_in.1 hx).2
  have hl := freshL_len (allQ q.rules).length
  have hg : (freshL (allQ q.rules).length)[i]'(by omega) = frL i := by simp [freshL]
  have hf : frL i ≠ [] := by simp [frL]
  refine ⟨i, hi, rfl, ?_, ?_, ?_⟩
  · rw [renF_at (allQ_nodup _) hi (by omega) hne, hg]
  · rw [← hg]; exact List.getElem_mem _
  · have := renF_at (tos := allQ q.rules) (freshL_nodup (allQ_few h0)) (i := i) (by omega) hi (by rw [hg]; exact hf)
    rw [hg] at this
    exact this
theorem turn_good (h0 : checkQ q = 0) : Good (renF (zipF (allQ q.rules) (freshL (allQ q.rules).length))) q := by
  refine ⟨renF_nil _, fun v hv => ?_, fun x hx y hy e => ?_⟩
  · obtain ⟨i, _, _, e, hm, _⟩ := turn_at h0 hv
    rw [e]; exact freshL_name (allQ_few h0) _ hm
  · obtain ⟨i, _, _, e1, _, g1⟩ := turn_at h0 hx
    obtain ⟨j, _, _, e2, _, g2⟩ := turn_at h0 hy
    rw [e1, e2] at e
    rw [← g1, ← g2, e]
/-- A renaming that undoes another, name by name. -/
theorem map_back (h0 : checkQ q = 0) {f g : Str → Str} (hf : f [] = []) (hg : g [] = []) (h : ∀ v ∈ allQ q.rules, g (f v) = v) : mapQ g (mapQ f q) = q := by
  have hin : ∀ r ∈ q.rules, ∀ v, inR r v → g (f v) = v := by
    intro r hr v hv
    rcases hv with rfl | hv
    · rw [hf, hg]
    · exact h v (allQ_in.2 ⟨r, hr, hv⟩)
  have hnd : ∀ v ∈ needL q, g (f v) = v := fun v hv => h v (need_in h0 hv)
  have mapid : ∀ {α : Type} {u : α → α} {l : List α}, (∀ x ∈ l, u x = x) → l.map u = l := fun {α} {u} {l} hu => by
    induction l with
    | nil => rfl
    | cons a l ih => rw [List.map_cons, hu a (List.mem_cons_self ..), ih fun x hx => hu x (List.mem_cons_of_mem _ hx)]
  have hr : (q.rules.map (mapR f)).map (mapR g) = q.rules := by
    rw [List.map_map]
    refine mapid fun r hr => ?_
    obtain ⟨as', cs⟩ := r
    simp only [Function.comp, mapR, List.map_map]
    rw [mapid fun a ha => ?_, mapid fun c hc => ?_]
    · have hv := hin _ hr c.v (inR_cond hc)
      obtain ⟨cv, co, cc⟩ := c
      simp only [Function.comp, mapC] at hv ⊢
      rw [hv]
    · obtain ⟨an, ar, at'⟩ := a
      simp only [Function.comp, mapA, List.map_map]
      rw [mapid fun t ht => ?_]
      have hv := hin _ hr t.v (inR_atom ha t ht)
      obtain ⟨tv, tc⟩ := t
      simp only [Function.comp, mapT] at hv ⊢
      rw [hv]
  have ho : (q.order.map (mapKy f)).map (mapKy g) = q.order := by
    rw [List.map_map]
    refine mapid fun k hk => ?_
    have := hnd k.v (List.mem_append_left _ (order_heads h0 k hk))
    obtain ⟨kv, kd⟩ := k
    simp only [Function.comp, mapKy] at this ⊢
    rw [this]
  have hh : (q.head.map f).map g = q.head := by
    rw [List.map_map]
    exact mapid fun v hv => hnd v (List.mem_append_left _ hv)
  have ha : g (f q.aggVar) = q.aggVar := by
    by_cases e : q.aggVar = []
    · rw [e, hf, hg]
    · exact hnd _ (by unfold needL; rw [if_neg e]; simp)
  obtain ⟨a, b, c, d, e⟩ := q
  simp only [mapQ] at *
  rw [hr, ho, hh, ha]
theorem mem_all_map {f : Str → Str} (h : Good f q) {x : Str} : x ∈ allQ (mapQ f q).rules ↔ ∃ v ∈ allQ q.rules, x = f v := by
  rw [allQ_in]
  constructor
  · rintro ⟨r', hr', hx⟩
    obtain ⟨r, hr, rfl⟩ := List.mem_map.1 hr'
    rw [ren_vars (h.ren hr)] at hx
    obtain ⟨v, hv, rfl⟩ := List.mem_map.1 hx
    exact ⟨v, allQ_in.2 ⟨r, hr, hv⟩, rfl⟩
  · rintro ⟨v, hv, rfl⟩
    obtain ⟨r, hr, hv⟩ := allQ_in.1 hv
    exact ⟨mapR f r, List.mem_map.2 ⟨r, hr, rfl⟩, by rw [ren_vars (h.ren hr)]; exact List.mem_map.2 ⟨v, hv, rfl⟩⟩
/-- The law's heart. -/
theorem turns_all (h0 : checkQ q = 0) (hd : ∀ v ∈ freshL (allQ q.rules).length, v ∉ allQ q.rules) :
    renE q (allQ q.rules) (freshL (allQ q.rules).length) = 0 ∧
    renE (mapQ (renF (zipF (allQ q.rules) (freshL (allQ q.rules).length))) q) (freshL (allQ q.rules).length) (allQ q.rules) = 0 ∧
    mapQ (renF (zipF (freshL (allQ q.rules).length) (allQ q.rules))) (mapQ (renF (zipF (allQ q.rules) (freshL (allQ q.rules).length))) q) = q ∧
    (0 < (allQ q.rules).length → mapQ (renF (zipF (allQ q.rules) (freshL (allQ q.rules).length))) q ≠ q) := by
  have hg := turn_good h0
  have hl := freshL_len (allQ q.rules).length
  have hc1 := good_check hg h0
  have hb := map_back h0 (renF_nil (zipF (allQ q.rules) (freshL (allQ q.rules).length))) (renF_nil (zipF (freshL (allQ q.rules).length) (allQ q.rules))) (fun v hv => by
    obtain ⟨i, _, _, e, _, g⟩ := turn_at h0 hv
    rw [e, g])
  refine ⟨good_ren hg h0 hl.symm (allQ_nodup _), ?_, hb, ?_⟩
  · refine good_ren ⟨renF_nil _, fun x hx => ?_, fun x hx y hy e => ?_⟩ hc1 hl (freshL_nodup (allQ_few h0))
    · obtain ⟨v, hv, rfl⟩ := (mem_all_map hg).1 hx
      obtain ⟨i, _, _, e, _, g⟩ := turn_at h0 hv
      rw [e, g]
      obtain ⟨r, hr, hvr⟩ := allQ_in.1 hv
      have hi := (rule_bound_of (firstE_zero (check_parts h0).2.2.2.2.2.1 r hr)).1
      obtain ⟨_, _, _, j4, j5⟩ := items_parts hi
      rcases List.mem_append.1 (vars_in.1 hvr).1 with h1 | h1
      · obtain ⟨a, ha, h2⟩ := List.mem_flatMap.1 h1
        obtain ⟨t, ht, rfl⟩ := List.mem_map.1 h2
        exact termE_var ((atom_parts (j4 a ha)).2.2 t ht) (vars_in.1 hvr).2
      · obtain ⟨c, hc, rfl⟩ := List.mem_map.1 h1
        exact condE_var (j5 c hc)
    · obtain ⟨v, hv, rfl⟩ := (mem_all_map hg).1 hx
      obtain ⟨u, hu, rfl⟩ := (mem_all_map hg).1 hy
      obtain ⟨i, _, _, e1, _, g1⟩ := turn_at h0 hv
      obtain ⟨j, _, _, e2, _, g2⟩ := turn_at h0 hu
      rw [e1, e2, g1, g2] at e
      rw [e]
  · intro hp e
    have hv : (allQ q.rules)[0] ∈ allQ q.rules := List.getElem_mem hp
    have h2 : renF (zipF (allQ q.rules) (freshL (allQ q.rules).length)) (allQ q.rules)[0] ∈ allQ (mapQ (renF (zipF (allQ q.rules) (freshL (allQ q.rules).length))) q).rules := (mem_all_map hg).2 ⟨_, hv, rfl⟩
    rw [e] at h2
    obtain ⟨i, _, _, e1, hm, _⟩ := turn_at h0 hv
    rw [e1] at h2
    exact hd _ hm h2
/-- The complete order names every variable of the head once. -/
theorem orderK_names (h0 : checkQ q = 0) : ((orderK q).map (·.v)).Nodup ∧ (orderK q).length = q.head.length ∧ ∀ k ∈ orderK q, k.v ∈ q.head := by
  have h4 : orderE q = 0 := (check_parts h0).2.2.2.2.2.2
  have h5 := (orderGo_few (hd := q.head) (l := q.order) (pre := []) h4 (by simp)).1
  simp only [List.nil_append] at h5
  have hhn := head_nodup h0
  have hin := orderK_heads h0
  have he : (orderK q).map (·.v) = ordV q ++ q.head.filter fun v => decide (v ∉ ordV q) := by
    unfold orderK restK
    rw [List.map_append, List.map_map]
    congr 1
    simp [Function.comp_def]
  have hnd : ((orderK q).map (·.v)).Nodup := by
    rw [he, List.nodup_append]
    refine ⟨h5, hhn.sublist List.filter_sublist, fun a ha b hb => ?_⟩
    rintro rfl
    have := (List.mem_filter.1 hb).2
    simp only [decide_eq_true_eq] at this
    exact this ha
  refine ⟨hnd, ?_, hin⟩
  have l1 := nodup_leS hnd (m := q.head) (fun x hx => by
    obtain ⟨k, hk, rfl⟩ := List.mem_map.1 hx
    exact hin k hk)
  have l2 := nodup_leS hhn (m := (orderK q).map (·.v)) (fun x hx => by
    rw [he, List.mem_append]
    by_cases hm : x ∈ ordV q
    · exact .inl hm
    · exact .inr (List.mem_filter.2 ⟨hx, by simpa using hm⟩))
  rw [List.length_map] at l1 l2
  omega
end
end Go.Proofs.YtgeapgbebbapmaaDoor
