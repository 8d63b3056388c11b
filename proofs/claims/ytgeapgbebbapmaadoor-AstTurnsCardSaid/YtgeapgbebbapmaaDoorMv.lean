/-
  PLAIN: renamings that keep the names of a query apart; the complete order. For the laws AstMoves, AstTurns.
-/
import Derived.Test.YtgeapgbebbapmaaDoorRen2
namespace Go.Proofs.YtgeapgbebbapmaaDoor

/-- f keeps apart what W tells. -/
structure Ren (f : Str → Str) (W : Str → Prop) : Prop where
  nil : f [] = []
  wn : W []
  inj : ∀ x y, W x → W y → f x = f y → x = y
section
variable {f : Str → Str} {W : Str → Prop}
theorem Ren.iff (h : Ren f W) {x y : Str} (hx : W x) (hy : W y) : f x = f y ↔ x = y := ⟨h.inj x y hx hy, fun e => by rw [e]⟩
theorem Ren.none (h : Ren f W) {x : Str} (hx : W x) : f x = [] ↔ x = [] := by
  have := h.iff hx h.wn
  rwa [h.nil] at this
theorem Ren.beq (h : Ren f W) {x y : Str} (hx : W x) (hy : W y) : (f x == f y) = (x == y) := by
  rw [Bool.eq_iff_iff, beq_iff_eq, beq_iff_eq]; exact h.iff hx hy
theorem Ren.beq0 (h : Ren f W) {x : Str} (hx : W x) : (f x == []) = (x == []) := by
  rw [Bool.eq_iff_iff, beq_iff_eq, beq_iff_eq]; exact h.none hx
theorem firstE_map {α β : Type} {p : β → Int} {q : α → Int} {g : α → β} : ∀ {l : List α}, (∀ a ∈ l, p (g a) = q a) → firstE p (l.map g) = firstE q l
  | [], _ => rfl
  | a :: l, h => by
    rw [List.map_cons, firstE, firstE, h a (List.mem_cons_self ..), firstE_map fun a ha => h a (List.mem_cons_of_mem _ ha)]
end
/-- The names of a rule, and none. -/
def inR (r : Rul) (x : Str) : Prop := x = [] ∨ x ∈ varsL r
theorem inR_atom {r : Rul} {a : Atm} (ha : a ∈ r.atoms) : ∀ t ∈ a.ts, inR r t.v := fun t ht => by
  by_cases h : t.v = []
  · exact .inl h
  · exact .inr (vars_in.2 ⟨List.mem_append_left _ (List.mem_flatMap.2 ⟨a, ha, List.mem_map.2 ⟨t, ht, rfl⟩⟩), h⟩)
theorem inR_cond {r : Rul} {c : Cnd} (hc : c ∈ r.conds) : inR r c.v := by
  by_cases h : c.v = []
  · exact .inl h
  · exact .inr (vars_in.2 ⟨List.mem_append_right _ (List.mem_map.2 ⟨c, hc, rfl⟩), h⟩)
section
variable {f : Str → Str}
theorem foldl_ren {W : Str → Prop} (h : Ren f W) : ∀ {l acc : List Str}, (∀ x ∈ l, W x) → (∀ x ∈ acc, W x) → (l.map f).foldl addN (acc.map f) = (l.foldl addN acc).map f
  | [], _, _, _ => rfl
  | v :: l, acc, hl, ha => by
    have hv := hl v (List.mem_cons_self ..)
    have key : addN (acc.map f) (f v) = (addN acc v).map f := by
      unfold addN
      have h1 : (f v = [] ∨ f v ∈ acc.map f) ↔ (v = [] ∨ v ∈ acc) := by
        rw [h.none hv, List.mem_map]
        constructor
        · rintro (e | ⟨x, hx, e⟩)
          · exact .inl e
          · exact .inr (by rw [← (h.iff (ha x hx) hv).1 e]; exact hx)
        · rintro (e | e)
          · exact .inl e
          · exact .inr ⟨v, e, rfl⟩
      by_cases h2 : v = [] ∨ v ∈ acc
      · rw [if_pos h2, if_pos (h1.2 h2)]
      · rw [if_neg h2, if_neg (fun e => h2 (h1.1 e)), List.map_append]; rfl
    rw [List.map_cons, List.foldl_cons, List.foldl_cons, key]
    refine foldl_ren h (fun x hx => hl x (List.mem_cons_of_mem _ hx)) (fun x hx => ?_)
    rcases addN_in.1 hx with hx | ⟨rfl, _⟩
    · exact ha x hx
    · exact hv
theorem ren_vars {r : Rul} (h : Ren f (inR r)) : varsL (mapR f r) = (varsL r).map f := by
  have he : allVs (mapR f r) = (allVs r).map f := by
    unfold allVs mapR atomVs mapA mapC
    simp [List.flatMap_map, List.map_flatMap, Function.comp_def, mapT]
  unfold varsL
  rw [he]
  exact foldl_ren h (acc := []) (fun x hx => by
    by_cases e : x = []
    · exact .inl e
    · exact .inr (vars_in.2 ⟨hx, e⟩)) (fun x hx => by cases hx)
theorem head_in {q : Qry} (h : checkQ q = 0) {v : Str} (hv : v ∈ needL q) {r : Rul} (hr : r ∈ q.rules) : inR r v := by
  have h5 := (check_parts h).2.2.2.2.2.1
  have h6 := firstE_zero h5 r hr
  unfold ruleE at h6
  by_cases hi : itemsE r = 0
  · rw [if_pos hi] at h6
    by_cases hm : 8 < (varsL r).length
    · rw [if_pos hm] at h6; exact absurd h6 (by decide)
    · rw [if_neg hm] at h6
      by_cases hb : ((needL q ++ varsL r).all (boundB r)) = true
      · have h7 := List.all_eq_true.1 hb v (List.mem_append_left _ hv)
        unfold boundB at h7
        rw [List.any_eq_true] at h7
        obtain ⟨a, ha, h8⟩ := h7
        rw [Bool.and_eq_true, List.any_eq_true] at h8
        obtain ⟨t, ht, h9⟩ := h8.2
        rw [beq_iff_eq] at h9
        subst h9
        exact inR_atom ha t ht
      · rw [if_neg hb] at h6; exact absurd h6 (by decide)
  · rw [if_neg hi] at h6; exact absurd h6 hi
theorem ren_some {q : Qry} (h0 : checkQ q = 0) (h1 : checkQ (mapQ f q) = 0) {r : Rul} (hr : r ∈ q.rules) {x : Str} (hx : x ∈ varsL r) : f x ≠ [] := by
  intro e
  have key : ∀ {q : Qry} {r : Rul}, checkQ q = 0 → r ∈ q.rules → (∀ a ∈ r.atoms, atomE a = 0) ∧ ∀ c ∈ r.conds, condE c = 0 := by
    intro q r h hr
    have h6 := firstE_zero (check_parts h).2.2.2.2.2.1 r hr
    unfold ruleE at h6
    by_cases hi : itemsE r = 0
    · unfold itemsE at hi
      by_cases g0 : r.atoms = []
      · rw [if_pos g0] at hi; exact absurd hi (by decide)
      rw [if_neg g0] at hi
      by_cases g1 : 8 < r.atoms.length ∨ 8 < r.conds.length
      · rw [if_pos g1] at hi; exact absurd hi (by decide)
      rw [if_neg g1] at hi
      by_cases g2 : firstE atomE r.atoms = 0
      · rw [if_pos g2] at hi
        exact ⟨firstE_zero g2, firstE_zero hi⟩
      · rw [if_neg g2] at hi; exact absurd hi g2
    · rw [if_neg hi] at h6; exact absurd h6 hi
  have k0 := key h0 hr
  have k1 := key (q := mapQ f q) (r := mapR f r) h1 (List.mem_map.2 ⟨r, hr, rfl⟩)
  obtain ⟨hx1, hx2⟩ := vars_in.1 hx
  have hts : ∀ {a : Atm}, atomE a = 0 → ∀ t ∈ a.ts, termE t = 0 := by
    intro a h
    unfold atomE at h
    split at h
    · exact absurd h (by decide)
    · split at h
      · exact absurd h (by decide)
      · exact firstE_zero h
  rcases List.mem_append.1 hx1 with hx1 | hx1
  · obtain ⟨a, ha, hx1⟩ := List.mem_flatMap.1 hx1
    obtain ⟨t, ht, rfl⟩ := List.mem_map.1 hx1
    have t0 := hts (k0.1 a ha) t ht
    have t1 := hts (k1.1 (mapA f a) (List.mem_map.2 ⟨a, ha, rfl⟩)) (mapT f t) (List.mem_map.2 ⟨t, ht, rfl⟩)
    unfold termE at t0 t1
    rw [if_neg hx2] at t0
    rw [if_pos (show (mapT f t).v = [] from e)] at t1
    split at t0
    · exact absurd t0 (by decide)
    · split at t0
      · rename_i hz
        have hval : t.c.valid = true := by
          by_cases hv : (mapT f t).c.valid = true
          · exact hv
          · rw [if_neg hv] at t1; exact absurd t1 (by decide)
        unfold V.valid at hval
        rw [hz.1] at hval
        simp at hval
      · exact absurd t0 (by decide)
  · obtain ⟨c, hc, rfl⟩ := List.mem_map.1 hx1
    have t1 := k1.2 (mapC f c) (List.mem_map.2 ⟨c, hc, rfl⟩)
    unfold condE at t1
    rw [show (mapC f c).v = [] from e] at t1
    rw [if_pos (by decide)] at t1
    exact absurd t1 (by decide)
end
theorem nodup_map_inj {f : Str → Str} {l : List Str} (h : (l.map f).Nodup) {x y : Str} (hx : x ∈ l) (hy : y ∈ l) (e : f x = f y) : x = y := by
  obtain ⟨i, hi, rfl⟩ := List.getElem_of_mem hx
  obtain ⟨j, hj, rfl⟩ := List.getElem_of_mem hy
  have h1 := List.nodup_iff_pairwise_ne.1 h
  rw [List.pairwise_iff_getElem] at h1
  rcases Nat.lt_trichotomy i j with h2 | h2 | h2
  · exact absurd (by rw [List.getElem_map, List.getElem_map]; exact e) (h1 i j (by simpa using hi) (by simpa using hj) h2)
  · subst h2; rfl
  · exact absurd (by rw [List.getElem_map, List.getElem_map]; exact e.symm) (h1 j i (by simpa using hj) (by simpa using hi) h2)
theorem ren_of {q : Qry} {fr tos : List Str} (h : renE q fr tos = 0) : ∀ r ∈ q.rules, Ren (renF (zipF fr tos)) (inR r) := by
  obtain ⟨h1, _, _, hn, h2⟩ := renE_zero h
  intro r hr
  have hnil : renF (zipF fr tos) [] = [] := by unfold renF; rw [if_pos rfl]
  refine ⟨hnil, .inl rfl, fun x y hx hy e => ?_⟩
  rcases hx with rfl | hx
  · rcases hy with rfl | hy
    · rfl
    · exact absurd (e.symm.trans hnil) (ren_some h1 h2 hr hy)
  · rcases hy with rfl | hy
    · exact absurd (e.trans hnil) (ren_some h1 h2 hr hx)
    · exact nodup_map_inj (hn r hr) hx hy e
theorem swap_at (n0 n1 v : Str) (hv : v ≠ []) : renF (zipF [n0, n1] [n1, n0]) v = if v = n0 then n1 else if v = n1 then n0 else v := by
  unfold renF zipF
  rw [if_neg hv]
  by_cases h0 : v = n0
  · subst h0; simp
  · rw [if_neg h0]
    have b0 : (n0 == v) = false := by simpa using fun e => h0 e.symm
    by_cases h1 : v = n1
    · subst h1; simp [b0]
    · rw [if_neg h1]
      have b1 : (n1 == v) = false := by simpa using fun e => h1 e.symm
      simp [b0, b1]
/-- The names of the sort keys. -/
def ordV (q : Qry) : List Str := q.order.map (·.v)
/-- The keys that complete an order: the first n names of the head. -/
def restK (q : Qry) (l : List Str) : List Ky := (l.filter fun v => decide (v ∉ ordV q)).map fun v => ⟨v, false⟩
/-- The complete order. -/
def orderK (q : Qry) : List Ky := q.order ++ restK q q.head
theorem restK_in {q : Qry} {l : List Str} {k : Nat} (h : k < l.length) (hm : l[k] ∈ ordV q) : restK q (l.take (k + 1)) = restK q (l.take k) := by
  unfold restK
  rw [List.take_succ_eq_append_getElem h, List.filter_append]
  simp [hm]
theorem restK_new {q : Qry} {l : List Str} {k : Nat} (h : k < l.length) (hm : l[k] ∉ ordV q) : restK q (l.take (k + 1)) = restK q (l.take k) ++ [⟨l[k], false⟩] := by
  unfold restK
  rw [List.take_succ_eq_append_getElem h, List.filter_append, List.map_append]
  simp [hm]
theorem restK_len (q : Qry) (l : List Str) : (restK q l).length ≤ l.length := by
  unfold restK
  rw [List.length_map]
  exact List.length_filter_le _ _
theorem orderK_len (q : Qry) : (orderK q).length ≤ q.order.length + q.head.length := by
  unfold orderK
  rw [List.length_append]
  have := restK_len q q.head
  omega
theorem order_heads {q : Qry} (h : checkQ q = 0) : ∀ k ∈ q.order, k.v ∈ q.head := by
  have h4 : orderE q = 0 := (check_parts h).2.2.2.2.2.2
  exact (orderGo_few (hd := q.head) (l := q.order) (pre := []) h4 (by simp)).2
theorem orderK_heads {q : Qry} (h : checkQ q = 0) : ∀ k ∈ orderK q, k.v ∈ q.head := by
  intro k hk
  rcases List.mem_append.1 hk with hk | hk
  · exact order_heads h k hk
  · unfold restK at hk
    obtain ⟨v, hv, rfl⟩ := List.mem_map.1 hk
    exact (List.mem_filter.1 hv).1
theorem head_names {q : Qry} (h : checkQ q = 0) : ∀ v ∈ q.head, nameB v = true := (headE_zero (check_parts h).2.2.2.1).2.1
theorem head_nodup {q : Qry} (h : checkQ q = 0) : q.head.Nodup := (headE_zero (check_parts h).2.2.2.1).2.2
theorem filter_map_of {α β : Type} {g : α → β} {p : β → Bool} {q : α → Bool} : ∀ {l : List α}, (∀ a ∈ l, p (g a) = q a) → (l.map g).filter p = (l.filter q).map g
  | [], _ => rfl
  | a :: l, h => by
    rw [List.map_cons, List.filter_cons, List.filter_cons, h a (List.mem_cons_self ..), filter_map_of fun b hb => h b (List.mem_cons_of_mem _ hb)]
    split <;> simp
theorem orderK_map {q : Qry} {f : Str → Str} (h0 : checkQ q = 0) (h1 : checkQ (mapQ f q) = 0) : orderK (mapQ f q) = (orderK q).map (mapKy f) := by
  have hn : (q.head.map f).Nodup := head_nodup h1
  have hin : ∀ v ∈ q.head, (f v ∈ ordV (mapQ f q)) ↔ v ∈ ordV q := by
    intro v hv
    unfold ordV mapQ
    simp only [List.map_map, List.mem_map, Function.comp, mapKy]
    constructor
    · rintro ⟨k, hk, e⟩
      exact ⟨k, hk, nodup_map_inj hn (order_heads h0 k hk) hv e⟩
    · rintro ⟨k, hk, e⟩
      exact ⟨k, hk, by rw [e]⟩
  unfold orderK restK
  rw [List.map_append, List.map_map]
  have e1 : (mapQ f q).head = q.head.map f := rfl
  have e2 : (mapQ f q).order = q.order.map (mapKy f) := rfl
  rw [e1, e2, filter_map_of (q := fun v => decide (v ∉ ordV q)) (fun v hv => by rw [decide_eq_decide, hin v hv]), List.map_map]
  rfl
/-- What AstMoves asks of the exchange. -/
def turnF (a b s : Str) : Str := if s = a then b else if s = b then a else s
theorem moves_order {q : Qry} {a b : Str} (h : renE q [a, b] [b, a] = 0) : (orderK (mapQ (renF (zipF [a, b] [b, a])) q)).length = (orderK q).length ∧ ∀ i (h1 : i < (orderK q).length) (h2 : i < (orderK (mapQ (renF (zipF [a, b] [b, a])) q)).length), (orderK (mapQ (renF (zipF [a, b] [b, a])) q))[i].v = turnF a b (orderK q)[i].v ∧ (orderK (mapQ (renF (zipF [a, b] [b, a])) q))[i].desc = (orderK q)[i].desc := by
  obtain ⟨h0, _, _, _, h1⟩ := renE_zero h
  rw [orderK_map h0 h1]
  refine ⟨List.length_map .., fun i hi _ => ?_⟩
  rw [List.getElem_map]
  have hm := orderK_heads h0 _ (List.getElem_mem hi)
  exact ⟨swap_at a b _ (nameB_ne (head_names h0 _ hm)), rfl⟩
theorem moves_vars {q : Qry} {a b : Str} (h : renE q [a, b] [b, a] = 0) {r : Rul} (hr : r ∈ q.rules) : (varsL (mapR (renF (zipF [a, b] [b, a])) r)).length = (varsL r).length ∧ ∀ i (h1 : i < (varsL r).length) (h2 : i < (varsL (mapR (renF (zipF [a, b] [b, a])) r)).length), (varsL (mapR (renF (zipF [a, b] [b, a])) r))[i] = turnF a b (varsL r)[i] := by
  rw [ren_vars (ren_of h r hr)]
  refine ⟨List.length_map .., fun i hi _ => ?_⟩
  rw [List.getElem_map]
  exact swap_at a b _ (vars_in.1 (List.getElem_mem hi)).2
end Go.Proofs.YtgeapgbebbapmaaDoor
