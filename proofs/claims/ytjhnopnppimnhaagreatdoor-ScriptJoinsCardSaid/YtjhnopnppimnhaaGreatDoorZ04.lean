/-
  PARTS of a claim, merged by segs.py: RowP, RowQ, Ast1, PsP, Ast3, Ast4, RenD.
-/
import Derived.Test.YtjhnopnppimnhaaGreatDoorZ03
import Derived.Test.YtjhnopnppimnhaaGreatDoorZ02
namespace Go.Proofs.YtjhnopnppimnhaaGreatDoor

/-! ### RowP -/
section

/-- The bytes of a quoted string behind the place i, up to its closing mark (or the end). -/
def qGo : List UInt8 → Nat
  | [] => 0
  | c :: r => if c = 34 then 0 else if c = 92 then (match r with
    | [] => 2
    | _ :: r' => qGo r' + 2) else qGo r + 1
/-- The length of the literal at the beginning. -/
def litLen (l : List UInt8) : Nat :=
  if l.getD 0 0 = 34 then min (qGo (l.drop 1) + 2) l.length else (l.takeWhile (· != 44)).length

theorem litLen_le (l : List UInt8) : litLen l ≤ l.length := by
  unfold litLen
  split
  · omega
  · exact (List.takeWhile_prefix _).length_le

theorem qGo_34 (r : List UInt8) : qGo (34 :: r) = 0 := by rw [qGo.eq_def]; simp
theorem qGo_esc (x : UInt8) (r : List UInt8) : qGo (92 :: x :: r) = qGo r + 2 := by rw [qGo.eq_def]; simp
theorem qGo_plain {c : UInt8} (h1 : c ≠ 34) (h2 : c ≠ 92) (r : List UInt8) : qGo (c :: r) = qGo r + 1 := by rw [qGo.eq_def]; simp [h1, h2]

theorem qGo_strGo : ∀ (n : Nat) (l : List UInt8) (m : Nat), l.length ≤ n → strGo false l = some m → qGo l + 1 = m
  | n, [], m, _, h => by simp [strGo] at h
  | 0, c :: r, m, hl, h => by simp at hl
  | n + 1, c :: r, m, hl, h => by
    by_cases h34 : c = 34
    · subst h34
      rw [strGo, if_neg (by decide), if_pos rfl] at h
      injection h with h
      rw [qGo_34]; exact h
    · by_cases h92 : c = 92
      · subst h92
        match r with
        | [] => simp [strGo] at h
        | x :: r' =>
          rw [strGo_esc] at h
          simp only [Option.map_map, Option.map_eq_some_iff] at h
          obtain ⟨k, hk, rfl⟩ := h
          have := qGo_strGo n r' k (by simp at hl; omega) hk
          rw [qGo_esc]
          simp only [Function.comp]; omega
      · rw [strGo_plain h92 h34] at h
        simp only [Option.map_eq_some_iff] at h
        obtain ⟨k, hk, rfl⟩ := h
        have := qGo_strGo n r k (by simpa using hl) hk
        rw [qGo_plain h34 h92]; omega

theorem litLen_text {v : V} (hv : v.valid = true) (u : List UInt8) (hu : u = [] ∨ ∃ u', u = 44 :: u') : litLen (textL v ++ u) = (textL v).length := by
  have hne := textL_ne hv
  by_cases h1 : v.k = 1
  · have ht := textL_int hv h1
    have hb := itoa_bytes v.n
    rw [← ht] at hb
    unfold litLen
    rw [getD0_app hne]
    have h0 := hb ((textL v).getD 0 0) (by match textL v, hne with | x :: r, _ => exact List.mem_cons_self)
    rw [if_neg (by intro e; rw [e] at h0; revert h0; decide)]
    have hp : ∀ c ∈ textL v, (c != 44) = true := fun c hc => by
      have := hb c hc
      rw [bne_iff_ne]
      rintro rfl
      revert this; decide
    rcases hu with rfl | ⟨u', rfl⟩
    · rw [List.append_nil, ← List.append_nil (textL v), takeWhile_app _ _ hp]; simp
    · rw [takeWhile_app _ _ hp]; simp
  · have ht := textL_str hv h1
    unfold litLen
    rw [getD0_app hne]
    rw [if_pos (by rw [ht]; rfl)]
    have hs : strLen (textL v ++ u) = some (textL v).length := by rw [ht]; exact strLen_quote _ _
    have hs2 := hs
    unfold strLen at hs2
    simp only [Option.map_eq_some_iff] at hs2
    obtain ⟨m, hm, e⟩ := hs2
    have := qGo_strGo _ _ _ (Nat.le_refl _) hm
    rw [List.length_append]; omega

/-- The program's road. -/
def rowP (acc : List V) (l : List UInt8) : Option (List V) :=
  if (parseL (l.take (litLen l))).2 ≠ 0 then none
  else if l.drop (litLen l) = [] then some (acc ++ [(parseL (l.take (litLen l))).1])
  else if ([44, 32] : List UInt8).isPrefixOf (l.drop (litLen l)) = false then none
  else if _h : (l.drop (litLen l)).length < 2 then none
  else rowP (acc ++ [(parseL (l.take (litLen l))).1]) ((l.drop (litLen l)).drop 2)
termination_by l.length
decreasing_by
  rw [List.length_drop] at _h ⊢
  rw [List.length_drop]
  omega

/-- Values that a text can spell. -/
def Spelt (us : List V) : Prop := us ≠ [] ∧ ∀ v ∈ us, v.valid = true ∧ I64 v.n
theorem rowBody_one' (v : V) : rowBody [v] = textL v := by simp [rowBody]
theorem rowBody_more (v u : V) (us : List V) : rowBody (v :: u :: us) = textL v ++ ([44, 32] ++ rowBody (u :: us)) := by
  simp [rowBody]

theorem rowP_sound : ∀ (n : Nat) (l : List UInt8) (acc vs : List V), l.length ≤ n → rowP acc l = some vs → ∃ us, vs = acc ++ us ∧ Spelt us ∧ l = rowBody us := by
  intro n
  induction n with
  | zero =>
    intro l acc vs hl h
    have e : l = [] := List.eq_nil_of_length_eq_zero (by omega)
    subst e
    rw [rowP] at h
    simp [parseL] at h
  | succ n ih =>
    intro l acc vs hl h
    rw [rowP] at h
    split at h
    · cases h
    · rename_i h0
      have h0' : (parseL (l.take (litLen l))).2 = 0 := by simpa using h0
      obtain ⟨v, hv⟩ : ∃ v, parseL (l.take (litLen l)) = (v, 0) := ⟨_, Prod.ext rfl h0'⟩
      obtain ⟨g1, g2, g3, _⟩ := text_parse hv
      rw [hv] at h
      split at h
      · rename_i h1
        injection h with h
        refine ⟨[v], h.symm, ⟨by simp, by simpa using ⟨g1, g3⟩⟩, ?_⟩
        rw [rowBody_one', g2]
        have := List.take_append_drop (litLen l) l
        rw [h1, List.append_nil] at this
        exact this.symm
      · split at h
        · cases h
        · rename_i h2
          split at h
          · cases h
          · rename_i h3
            have hlt : ((l.drop (litLen l)).drop 2).length ≤ n := by
              rw [List.length_drop] at h3 ⊢
              rw [List.length_drop]; omega
            obtain ⟨us, e1, e2, e3⟩ := ih _ _ _ hlt h
            refine ⟨v :: us, by rw [e1]; simp, ⟨by simp, ?_⟩, ?_⟩
            · intro x hx
              rcases List.mem_cons.1 hx with rfl | hx
              · exact ⟨g1, g3⟩
              · exact e2.2 x hx
            · match us, e2.1 with
              | u :: us', _ =>
                rw [rowBody_more, ← e3, g2]
                have hp : ([44, 32] : List UInt8) <+: l.drop (litLen l) := by
                  rw [← List.isPrefixOf_iff_prefix]; simpa using h2
                have e4 := List.prefix_iff_eq_take.1 hp
                have e5 : [44, 32] ++ (l.drop (litLen l)).drop 2 = l.drop (litLen l) := by
                  conv => { lhs; lhs; rw [e4] }
                  exact List.take_append_drop 2 _
                rw [e5, List.take_append_drop]

theorem rowP_complete : ∀ (us acc : List V), Spelt us → rowP acc (rowBody us) = some (acc ++ us)
  | [], acc, h => absurd rfl h.1
  | [v], acc, h => by
    obtain ⟨h1, h2⟩ := h.2 v (by simp)
    have hl := litLen_text h1 [] (.inl rfl)
    rw [List.append_nil] at hl
    rw [rowBody_one', rowP, hl, List.take_length, parse_text h1 h2, if_neg (by simp), List.drop_length, if_pos rfl]
  | v :: u :: us, acc, h => by
    obtain ⟨h1, h2⟩ := h.2 v (by simp)
    have hl := litLen_text h1 ([44, 32] ++ rowBody (u :: us)) (.inr ⟨_, rfl⟩)
    have ih := rowP_complete (u :: us) (acc ++ [v]) ⟨by simp, fun x hx => h.2 x (by simp [hx])⟩
    rw [rowBody_more, rowP, hl, List.take_left, parse_text h1 h2, if_neg (by simp), List.drop_left, if_neg (by simp), if_neg (by simp), dif_neg (by simp)]
    simp only [List.cons_append, List.nil_append, List.drop_succ_cons, List.drop_zero]
    rw [ih]; simp

/-- The document's road. -/
def splitGo : Bool → Bool → List UInt8 → List UInt8 → List (List UInt8)
  | _, _, cur, [] => [cur]
  | q, e, cur, c :: r =>
    if q = false ∧ c = 44 ∧ r.getD 0 0 = 32 ∧ r ≠ [] then cur :: splitGo q e [] (r.drop 1)
    else splitGo (if c = 34 ∧ e = false then !q else q) ((if c = 34 ∧ e = false then !q else q) && (c == 92 && !e)) (cur ++ [c]) r
termination_by _ _ _ l => l.length
decreasing_by
  · simp only [List.length_drop, List.length_cons]; omega
  · simp
def joinC : List (List UInt8) → List UInt8
  | [] => []
  | [x] => x
  | x :: y :: r => x ++ ([44, 32] ++ joinC (y :: r))
theorem splitGo_ne (q e : Bool) (cur l : List UInt8) : splitGo q e cur l ≠ [] := by
  match l with
  | [] => rw [splitGo]; simp
  | c :: r =>
    rw [splitGo]
    split
    · simp
    · exact splitGo_ne _ _ _ r
termination_by l.length
theorem splitGo_join : ∀ (n : Nat) (l : List UInt8) (q e : Bool) (cur : List UInt8), l.length ≤ n → joinC (splitGo q e cur l) = cur ++ l
  | n, [], q, e, cur, _ => by rw [splitGo]; simp [joinC]
  | 0, c :: r, q, e, cur, h => by simp at h
  | n + 1, c :: r, q, e, cur, h => by
    rw [splitGo]
    split
    · rename_i g
      obtain ⟨_, rfl, g2, g3⟩ := g
      have ih := splitGo_join n (r.drop 1) q e [] (by simp at h ⊢; omega)
      match hs : splitGo q e [] (r.drop 1), splitGo_ne q e [] (r.drop 1) with
      | y :: ys, _ =>
        rw [joinC, ← hs, ih]
        match r, g3, g2 with
        | x :: r', _, g2 =>
          have g2' : x = 32 := g2
          subst g2'; rfl
    · rw [splitGo_join n r _ _ _ (by simpa using h)]; simp
/-- All parts read. -/
def allP : List (List UInt8) → Option (List V)
  | [] => some []
  | x :: r => if (parseL x).2 ≠ 0 then none else (allP r).map ((parseL x).1 :: ·)
theorem allP_sound : ∀ (ps : List (List UInt8)) (vs : List V), allP ps = some vs → (∀ v ∈ vs, v.valid = true ∧ I64 v.n) ∧ ps = vs.map textL
  | [], vs, h => by
    injection h with h; subst h; simp
  | x :: r, vs, h => by
    unfold allP at h
    split at h
    · cases h
    · rename_i h0
      have h0' : (parseL x).2 = 0 := by simpa using h0
      obtain ⟨v, hv⟩ : ∃ v, parseL x = (v, 0) := ⟨_, Prod.ext rfl h0'⟩
      obtain ⟨g1, g2, g3, _⟩ := text_parse hv
      rw [hv] at h
      simp only [Option.map_eq_some_iff] at h
      obtain ⟨us, hu, rfl⟩ := h
      obtain ⟨a1, a2⟩ := allP_sound r us hu
      refine ⟨?_, by rw [List.map_cons, g2, a2]⟩
      intro y hy
      rcases List.mem_cons.1 hy with rfl | hy
      · exact ⟨g1, g3⟩
      · exact a1 y hy
theorem allP_complete : ∀ (vs : List V), (∀ v ∈ vs, v.valid = true ∧ I64 v.n) → allP (vs.map textL) = some vs
  | [], _ => rfl
  | v :: vs, h => by
    obtain ⟨h1, h2⟩ := h v (by simp)
    rw [List.map_cons, allP, parse_text h1 h2, if_neg (by simp), allP_complete vs fun x hx => h x (by simp [hx])]; rfl
theorem joinC_body : ∀ (vs : List V), vs ≠ [] → joinC (vs.map textL) = rowBody vs
  | [], h => absurd rfl h
  | [v], _ => by rw [rowBody_one']; rfl
  | v :: u :: us, _ => by
    rw [rowBody_more, ← joinC_body (u :: us) (by simp)]; rfl

/-- Bytes that turn nothing outside of a string. -/
theorem split_calm : ∀ (x : List UInt8) (cur u : List UInt8), (∀ c ∈ x, c ≠ 34 ∧ c ≠ 44) → splitGo false false cur (x ++ u) = splitGo false false (cur ++ x) u
  | [], cur, u, _ => by simp
  | c :: x, cur, u, h => by
    obtain ⟨h1, h2⟩ := h c (by simp)
    rw [List.cons_append, splitGo, if_neg (by simp [h2])]
    simp only [h1, false_and, if_false, Bool.false_and]
    rw [split_calm x _ u fun y hy => h y (by simp [hy])]; simp
theorem split_in1 {c : UInt8} (h1 : c ≠ 34) (h2 : c ≠ 92) (cur u : List UInt8) : splitGo true false cur (c :: u) = splitGo true false (cur ++ [c]) u := by
  have e : (c == 92) = false := by simpa using h2
  rw [splitGo, if_neg (by simp)]
  simp [h1, e]
theorem split_esc (c : UInt8) (cur u : List UInt8) : splitGo true false cur (92 :: c :: u) = splitGo true false (cur ++ [92, c]) u := by
  rw [splitGo, if_neg (by simp)]
  have e1 : (if (92 : UInt8) = 34 ∧ false = false then !true else true) = true := by decide
  have e2 : (true && ((92 : UInt8) == 92 && !false)) = true := by decide
  rw [e1, e2, splitGo, if_neg (by simp)]
  simp
theorem split_spell (c : UInt8) (cur u : List UInt8) : splitGo true false cur (spell c ++ u) = splitGo true false (cur ++ spell c) u := by
  have hx : ∀ q : Nat, q < 16 → hexd q ≠ 34 ∧ hexd q ≠ 92 := by decide
  have hc : c.toNat < 256 := c.toNat_lt
  unfold spell
  split
  · exact split_esc _ _ _
  · split
    · exact split_esc _ _ _
    · split
      · exact split_esc _ _ _
      · split
        · rename_i g1 _ _ _
          have h1 : c ≠ 92 := fun e => g1 (.inr (by rw [e]; rfl))
          have h2 : c ≠ 34 := fun e => g1 (.inl (by rw [e]; rfl))
          exact split_in1 h2 h1 _ _
        · obtain ⟨a1, a2⟩ := hx (c.toNat / 16) (by omega)
          obtain ⟨b1, b2⟩ := hx (c.toNat % 16) (by omega)
          simp only [List.cons_append, List.nil_append]
          rw [split_esc, split_in1 a1 a2, split_in1 b1 b2]
          simp
theorem split_spells : ∀ (l cur u : List UInt8), splitGo true false cur (l.flatMap spell ++ u) = splitGo true false (cur ++ l.flatMap spell) u
  | [], cur, u => by simp
  | c :: l, cur, u => by
    rw [List.flatMap_cons, List.append_assoc, split_spell, split_spells l, List.append_assoc]
theorem split_text {v : V} (hv : v.valid = true) (cur u : List UInt8) : splitGo false false cur (textL v ++ u) = splitGo false false (cur ++ textL v) u := by
  by_cases h1 : v.k = 1
  · rw [textL_int hv h1]
    refine split_calm _ _ _ fun c hc => ?_
    have := itoa_bytes v.n c hc
    constructor
    · rintro rfl; revert this; decide
    · rintro rfl; revert this; decide
  · rw [textL_str hv h1]
    unfold quoteL
    rw [List.cons_append, splitGo, if_neg (by simp)]
    have e1 : (if (34 : UInt8) = 34 ∧ false = false then !false else false) = true := by decide
    have e2 : (true && ((34 : UInt8) == 92 && !false)) = false := by decide
    rw [e1, e2, List.append_assoc, split_spells]
    rw [List.cons_append, List.nil_append, splitGo, if_neg (by simp)]
    have e3 : (if (34 : UInt8) = 34 ∧ false = false then !true else true) = false := by decide
    rw [e3, Bool.false_and]
    simp
theorem split_body : ∀ (vs : List V) (cur : List UInt8), vs ≠ [] → (∀ v ∈ vs, v.valid = true) → ∃ x r, vs.map textL = x :: r ∧ splitGo false false cur (rowBody vs) = (cur ++ x) :: r
  | [], cur, h, _ => absurd rfl h
  | [v], cur, _, h => by
    refine ⟨textL v, [], rfl, ?_⟩
    have := split_text (h v (by simp)) cur []
    rw [List.append_nil] at this
    rw [rowBody_one', this, splitGo]
  | v :: u :: us, cur, _, h => by
    obtain ⟨x, r, e1, e2⟩ := split_body (u :: us) [] (by simp) fun y hy => h y (by simp [hy])
    refine ⟨textL v, x :: r, by rw [List.map_cons, e1], ?_⟩
    rw [rowBody_more, split_text (h v (by simp))]
    simp only [List.cons_append, List.nil_append]
    rw [splitGo, if_pos (by simp)]
    simp only [List.drop_succ_cons, List.drop_zero]
    rw [e2]; rfl

/-- What both roads come to. -/
theorem roads (l : List UInt8) : allP (splitGo false false [] l) = rowP [] l := by
  have key : ∀ vs, (allP (splitGo false false [] l) = some vs ↔ rowP [] l = some vs) := by
    intro vs
    constructor
    · intro h
      obtain ⟨h1, h2⟩ := allP_sound _ _ h
      have hne : vs ≠ [] := by
        rintro rfl
        exact splitGo_ne false false [] l h2
      have hj := splitGo_join _ l false false [] (Nat.le_refl _)
      rw [h2, joinC_body vs hne, List.nil_append] at hj
      rw [← hj]
      have := rowP_complete vs [] ⟨hne, h1⟩
      simpa using this
    · intro h
      obtain ⟨us, e1, e2, e3⟩ := rowP_sound _ l [] vs (Nat.le_refl _) h
      rw [List.nil_append] at e1
      subst e1
      obtain ⟨x, r, f1, f2⟩ := split_body vs [] e2.1 fun v hv => (e2.2 v hv).1
      rw [e3, f2, List.nil_append, ← f1]
      exact allP_complete vs e2.2
  cases h : rowP [] l with
  | some vs => exact (key vs).2 h
  | none =>
    cases h2 : allP (splitGo false false [] l) with
    | none => rfl
    | some vs => rw [(key vs).1 h2] at h; cases h
end

/-! ### RowQ -/
section

/-- The row of a text. -/
def rowQ (l : List UInt8) : Option (List V) :=
  if l = [40, 41] then some [] else if l.length < 2 ∨ l.getD 0 0 ≠ 40 ∨ l.getD (l.length - 1) 0 ≠ 41 then none else rowP [] ((l.drop 1).take (l.length - 2))

theorem rowBody_ne : ∀ (vs : List V), vs ≠ [] → (∀ v ∈ vs, v.valid = true) → rowBody vs ≠ []
  | [], h, _ => absurd rfl h
  | v :: vs, _, h => by
    have := textL_ne (h v (by simp))
    unfold rowBody
    simp [this]
theorem getLast_snoc (l : List UInt8) (c d : UInt8) : (l ++ [c]).getD ((l ++ [c]).length - 1) d = c := by
  rw [List.getD_eq_getElem?_getD]; simp
theorem rowQ_text {r : List V} (h : ∀ v ∈ r, v.valid = true ∧ I64 v.n) : rowQ (rowTextL r) = some r := by
  match r, h with
  | [], _ => rfl
  | v :: vs, h =>
    have hne := rowBody_ne (v :: vs) (by simp) fun u hu => (h u hu).1
    have hlen := List.length_pos_iff.2 hne
    have e1 : rowTextL (v :: vs) = (40 :: rowBody (v :: vs)) ++ [41] := rfl
    unfold rowQ
    rw [if_neg, if_neg]
    · have e2 : ((rowTextL (v :: vs)).drop 1).take ((rowTextL (v :: vs)).length - 2) = rowBody (v :: vs) := by
        rw [e1]
        simp only [List.cons_append, List.drop_succ_cons, List.drop_zero, List.length_cons, List.length_append, List.length_nil]
        rw [show (rowBody (v :: vs)).length + (0 + 1) + 1 - 2 = (rowBody (v :: vs)).length by omega, List.take_left]
      rw [e2, rowP_complete (v :: vs) [] ⟨by simp, h⟩]; rfl
    · rw [e1]
      rintro (h | h | h)
      · simp only [List.length_append, List.length_cons, List.length_nil] at h; omega
      · exact h rfl
      · exact h (getLast_snoc _ _ _)
    · intro e
      have := congrArg List.length e
      rw [e1] at this
      simp only [List.length_append, List.length_cons, List.length_nil] at this
      exact absurd e (by
        intro e
        rw [e1] at e
        have h0 : rowBody (v :: vs) = [] := List.eq_nil_of_length_eq_zero (by omega)
        exact hne h0)
theorem rowQ_inv {l : List UInt8} {vs : List V} (h : rowQ l = some vs) : rowTextL vs = l ∧ (∀ v ∈ vs, v.valid = true ∧ I64 v.n) ∧ vs.length ≤ l.length := by
  unfold rowQ at h
  split at h
  · rename_i h0
    injection h with h
    subst h h0
    exact ⟨rfl, by simp, by simp⟩
  · split at h
    · cases h
    · rename_i h1
      have g1 : ¬ l.length < 2 := fun e => h1 (.inl e)
      have g2 : l.getD 0 0 = 40 := Classical.byContradiction fun e => h1 (.inr (.inl e))
      have g3 : l.getD (l.length - 1) 0 = 41 := Classical.byContradiction fun e => h1 (.inr (.inr e))
      obtain ⟨us, e1, e2, e3⟩ := rowP_sound _ _ [] vs (Nat.le_refl _) h
      rw [List.nil_append] at e1
      subst e1
      have hl : rowTextL vs = l := by
        unfold rowTextL
        rw [← e3]
        match l, g1, g2, g3 with
        | a :: m, g1, g2, g3 =>
          have ga : a = 40 := g2
          subst ga
          rcases List.eq_nil_or_concat m with rfl | ⟨m', b, rfl⟩
          · simp at g1
          · rw [List.concat_eq_append] at *
            have gb : b = 41 := by
              have : (40 :: (m' ++ [b])) = (40 :: m') ++ [b] := rfl
              rw [this, getLast_snoc] at g3
              exact g3
            subst gb
            simp
      refine ⟨hl, e2.2, ?_⟩
      have hb : vs.length ≤ (rowBody vs).length := by
        have key : ∀ us : List V, (∀ v ∈ us, v.valid = true) → us.length ≤ (rowBody us).length := by
          intro us
          induction us with
          | nil => intro _; simp
          | cons v us ih =>
            intro hv
            match us, ih with
            | [], _ =>
              have := List.length_pos_iff.2 (textL_ne (hv v (by simp)))
              rw [rowBody_one']; simp only [List.length_cons, List.length_nil]; omega
            | u :: us', ih =>
              have := ih fun x hx => hv x (by simp [hx])
              rw [rowBody_more]
              simp only [List.length_append, List.length_cons, List.length_nil] at *
              omega
        exact key vs fun v hv => (e2.2 v hv).1
      rw [← hl]
      unfold rowTextL
      simp only [List.length_cons, List.length_append, List.length_nil]
      omega
end

/-! ### Ast1 -/
section

abbrev Str := List UInt8
structure Trm where
  v : Str
  c : V
structure Atm where
  neg : Bool
  rel : Str
  ts : List Trm
structure Cnd where
  v : Str
  op : Int
  c : V
structure Rul where
  atoms : List Atm
  conds : List Cnd
structure Ky where
  v : Str
  desc : Bool
structure Qry where
  head : List Str
  agg : Int
  aggVar : Str
  rules : List Rul
  order : List Ky

def letQ (c : UInt8) : Bool := (decide (97 ≤ c.toNat) && decide (c.toNat ≤ 122)) || (decide (65 ≤ c.toNat) && decide (c.toNat ≤ 90))
def wrdQ (c : UInt8) : Bool := letQ c || c == 95 || (decide (48 ≤ c.toNat) && decide (c.toNat ≤ 57))
/-- count, desc, max, min, not, order, sum -/
def keyQ : List Str := [[99, 111, 117, 110, 116], [100, 101, 115, 99], [109, 97, 120], [109, 105, 110], [110, 111, 116], [111, 114, 100, 101, 114], [115, 117, 109]]
/-- A name of the catalog. -/
def catB (l : Str) : Bool := decide (0 < l.length) && (decide (l.length ≤ 16) && (letQ (l.getD 0 0) && (l.drop 1).all wrdQ))
/-- A name in a query. -/
def nameB (l : Str) : Bool := !keyQ.contains l && catB l

/-- The first error of a list. -/
def firstE {α : Type} (f : α → Int) : List α → Int
  | [] => 0
  | x :: l => if f x = 0 then firstE f l else f x
theorem firstE_zero {α : Type} {f : α → Int} : ∀ {l : List α}, firstE f l = 0 → ∀ x ∈ l, f x = 0
  | [], _, x, h => absurd h (by simp)
  | y :: l, h, x, hx => by
    rw [firstE] at h
    split at h
    · rename_i h0
      rcases List.mem_cons.1 hx with rfl | hx
      · exact h0
      · exact firstE_zero h x hx
    · rename_i h0
      exact absurd h h0

def termE (t : Trm) : Int := if t.v = [] then (if t.c.valid = true then 0 else 4) else if nameB t.v = false then 7 else if t.c.k = 0 ∧ t.c.n = 0 ∧ t.c.s.size = 0 then 0 else 1
def atomE (a : Atm) : Int := if nameB a.rel = false then 7 else if 6 < a.ts.length then 12 else firstE termE a.ts
def condE (c : Cnd) : Int := if nameB c.v = false then 7 else if c.op < 0 ∨ 5 < c.op then 2 else if c.c.valid = true then 0 else 4
def itemsE (r : Rul) : Int := if r.atoms = [] then 10 else if 8 < r.atoms.length ∨ 8 < r.conds.length then 12 else if firstE atomE r.atoms = 0 then firstE condE r.conds else firstE atomE r.atoms

/-- Names in the order of their first occurrences. -/
def addN (acc : List Str) (v : Str) : List Str := if v = [] ∨ v ∈ acc then acc else acc ++ [v]
def atomVs (a : Atm) : List Str := a.ts.map (·.v)
def allVs (r : Rul) : List Str := r.atoms.flatMap atomVs ++ r.conds.map (·.v)
def varsL (r : Rul) : List Str := (allVs r).foldl addN []
/-- Does a positive atom bind the variable? -/
def boundB (r : Rul) (v : Str) : Bool := r.atoms.any fun a => !a.neg && a.ts.any fun t => t.v == v
def needL (q : Qry) : List Str := q.head ++ (if q.aggVar = [] then [] else [q.aggVar])
def ruleE (q : Qry) (r : Rul) : Int := if itemsE r = 0 then (if 8 < (varsL r).length then 12 else if ((needL q ++ varsL r).all (boundB r)) = true then 0 else 22) else itemsE r

def headGo : List Str → List Str → Int
  | _, [] => 0
  | pre, v :: l => if nameB v = false then 7 else if v ∈ pre then 8 else headGo (pre ++ [v]) l
def headE (h : List Str) : Int := if 6 < h.length then 12 else headGo [] h
def aggE (q : Qry) : Int := if q.agg = 0 ∨ q.agg = 1 then (if q.aggVar = [] then 0 else 1) else if q.agg = 2 ∨ q.agg = 3 ∨ q.agg = 4 then (if nameB q.aggVar = true then 0 else 7) else 2
def orderGo (head : List Str) : List Str → List Ky → Int
  | _, [] => 0
  | pre, k :: l => if k.v ∈ head then (if k.v ∈ pre then 8 else orderGo head (pre ++ [k.v]) l) else 7
def orderE (q : Qry) : Int := orderGo q.head [] q.order
def checkQ (q : Qry) : Int :=
  if q.rules = [] then 10
  else if 3 < q.rules.length ∨ (1 < q.rules.length ∧ q.agg ≠ 0) then 12
  else if headE q.head ≠ 0 then headE q.head
  else if aggE q ≠ 0 then aggE q
  else if firstE (ruleE q) q.rules ≠ 0 then firstE (ruleE q) q.rules
  else orderE q

theorem nameB_ne {l : Str} (h : nameB l = true) : l ≠ [] := by
  rintro rfl
  revert h; decide
theorem termE_var {t : Trm} (h : termE t = 0) (hv : t.v ≠ []) : nameB t.v = true := by
  unfold termE at h
  rw [if_neg hv] at h
  split at h
  · exact absurd h (by decide)
  · rename_i g; simpa using g
theorem condE_var {c : Cnd} (h : condE c = 0) : nameB c.v = true := by
  unfold condE at h
  split at h
  · exact absurd h (by decide)
  · rename_i g; simpa using g
end

/-! ### PsP -/
section

/-- The token at i; behind the last one it is the last one. -/
def tkL (l : List Tok) (i : Nat) : Tok := l.getD (min i (l.length - 1)) T0
def isT (t : Tok) (s : Str) : Bool := (t.k == 4 || t.k == 5) && t.t == s
/-- not , ( ) ; | :- ans order desc count sum min max -/
def sNot : Str := [110, 111, 116]
def sComma : Str := [44]
def sOpen : Str := [40]
def sShut : Str := [41]
def sSemi : Str := [59]
def sBar : Str := [124]
def sIf : Str := [58, 45]
def sAns : Str := [97, 110, 115]
def sOrder : Str := [111, 114, 100, 101, 114]
def sDesc : Str := [100, 101, 115, 99]
def sCount : Str := [99, 111, 117, 110, 116]
def sSum : Str := [115, 117, 109]
def sMin : Str := [109, 105, 110]
def sMax : Str := [109, 97, 120]
def opsL : List Str := [[61], [33, 61], [60], [60, 61], [62], [62, 61]]
/-- The number of a comparison operator. -/
def opT (t : Tok) : Option Nat := opsL.findIdx? (fun s => isT t s)
def constT (t : Tok) : Option V := if t.k = 2 ∨ t.k = 3 then some t.v else none
def termT (t : Tok) : Option Trm := if t.k = 1 then some ⟨t.t, V0⟩ else (constT t).map fun v => ⟨[], v⟩
/-- A result with the next token's index, or the index of the first token that does not fit. -/
inductive Out (α : Type) where
  | bad (at_ : Nat) : Out α
  | ok (x : α) (next : Nat) : Out α
section
variable (tk : Nat → Tok)
def termsS : Nat → Nat → List Trm → Out (List Trm)
  | 0, i, _ => .bad i
  | f + 1, i, acc => match termT (tk i) with
    | none => .bad i
    | some t => if isT (tk (i + 1)) sShut = true then .ok (acc ++ [t]) (i + 2) else if isT (tk (i + 1)) sComma = true then termsS f (i + 2) (acc ++ [t]) else .bad (i + 1)
/-- The terms behind the opening parenthesis. -/
def parenS (f i : Nat) : Out (List Trm) := if isT (tk i) sShut = true then .ok [] (i + 1) else termsS tk f i []
def itemS (f i : Nat) (r : Rul) : Out Rul :=
  let neg := isT (tk i) sNot
  let j := if neg = true then i + 1 else i
  if (tk j).k ≠ 1 then .bad j
  else if isT (tk (j + 1)) sOpen = true then match parenS tk f (j + 2) with
    | .bad e => .bad e
    | .ok ts nx => .ok { r with atoms := r.atoms ++ [⟨neg, (tk j).t, ts⟩] } nx
  else if neg = true then .bad (j + 1)
  else match opT (tk (j + 1)) with
    | none => .bad (j + 1)
    | some o => match constT (tk (j + 2)) with
      | none => .bad (j + 2)
      | some v => .ok { r with conds := r.conds ++ [⟨(tk j).t, o, v⟩] } (j + 3)
def ruleG (n : Nat) : Nat → Nat → Rul → Out Rul
  | 0, i, _ => .bad i
  | f + 1, i, r => match itemS tk n i r with
    | .bad e => .bad e
    | .ok r' nx => if isT (tk nx) sComma = true then ruleG n f (nx + 1) r' else .ok r' nx
def namesS : Nat → Nat → List Str → Out (List Str)
  | 0, i, _ => .bad i
  | f + 1, i, acc => if (tk i).k ≠ 1 then .bad i else if isT (tk (i + 1)) sComma = true then namesS f (i + 2) (acc ++ [(tk i).t]) else .ok (acc ++ [(tk i).t]) (i + 1)
/-- The number of an aggregate that has a variable. -/
def aggT (t : Tok) : Option Int := if isT t sSum = true then some 2 else if isT t sMin = true then some 3 else if isT t sMax = true then some 4 else none
def aggG (i : Nat) (q : Qry) : Out Qry :=
  if isT (tk i) sCount = true then .ok { q with agg := 1 } (i + 1)
  else match aggT (tk i) with
    | none => .bad i
    | some a => if (tk (i + 1)).k ≠ 1 then .bad (i + 1) else .ok { q with agg := a, aggVar := (tk (i + 1)).t } (i + 2)
def endS (i : Nat) (q : Qry) : Out Qry :=
  if isT (tk i) sShut = true then (if isT (tk (i + 1)) sIf = true then .ok q (i + 2) else .bad (i + 1)) else .bad i
def semiS (i : Nat) (q : Qry) : Out Qry :=
  if isT (tk i) sSemi = true then match aggG tk (i + 1) q with
    | .bad e => .bad e
    | .ok q' nx => endS tk nx q'
  else endS tk i q
def headG (n : Nat) : Out Qry :=
  if (tk 0).k ≠ 1 ∨ (tk 0).t ≠ sAns then .bad 0
  else if isT (tk 1) sOpen = false then .bad 1
  else if (tk 2).k = 1 then match namesS tk n 2 [] with
    | .bad e => .bad e
    | .ok h nx => semiS tk nx ⟨h, 0, [], [], []⟩
  else semiS tk 2 ⟨[], 0, [], [], []⟩
def keysS : Nat → Nat → List Ky → Out (List Ky)
  | 0, i, _ => .bad i
  | f + 1, i, acc => if (tk i).k ≠ 1 then .bad i else
    let d := isT (tk (i + 1)) sDesc
    let j := if d = true then i + 2 else i + 1
    if isT (tk j) sComma = true then keysS f (j + 1) (acc ++ [⟨(tk i).t, d⟩]) else .ok (acc ++ [⟨(tk i).t, d⟩]) j
def rulesS (n : Nat) : Nat → Nat → List Rul → Out (List Rul)
  | 0, i, _ => .bad i
  | f + 1, i, acc => match ruleG tk n n i ⟨[], []⟩ with
    | .bad e => .bad e
    | .ok r nx => if isT (tk nx) sBar = true then rulesS n f (nx + 1) (acc ++ [r]) else .ok (acc ++ [r]) nx
def queryS (n : Nat) : Out Qry := match headG tk n with
  | .bad e => .bad e
  | .ok q nx => match rulesS tk n n nx [] with
    | .bad e => .bad e
    | .ok rs nx2 => if isT (tk nx2) sOrder = true then match keysS tk n (nx2 + 1) [] with
        | .bad e => .bad e
        | .ok ks nx3 => .ok { q with rules := rs, order := ks } nx3
      else .ok { q with rules := rs } nx2
/-- To the end of the text. -/
def fullS {α : Type} (o : Out α) : Out α := match o with
  | .bad e => .bad e
  | .ok x nx => if (tk nx).k = 0 then .ok x nx else .bad nx
end
def Q0 : Qry := ⟨[], 0, [], [], []⟩
def R0 : Rul := ⟨[], []⟩
/-- What the document's Parse answers: the query, an offset, an error. -/
def gramQ (l : List Tok) : Qry × Int × Int := match fullS (tkL l) (queryS (tkL l) l.length) with
  | .bad e => (Q0, (tkL l e).a, 21)
  | .ok q _ => (q, 0, 0)
def gramR (l : List Tok) : Rul × Int × Int := match fullS (tkL l) (ruleG (tkL l) l.length l.length 0 R0) with
  | .bad e => (R0, (tkL l e).a, 21)
  | .ok q _ => (q, 0, 0)
def parseQ (_s : Str) (x : List Tok × Int × Int) : Qry × Int × Int := if x.2.2 = 0 then gramQ x.1 else (Q0, x.2.1, x.2.2)
/-- Tokens that end in the end of the text. -/
structure Ended (l : List Tok) : Prop where
  pos : 0 < l.length
  last : (tkL l (l.length - 1)).k = 0
theorem Ended.out {l : List Tok} (h : Ended l) {i : Nat} (hi : l.length - 1 ≤ i) : (tkL l i).k = 0 := by
  have e : tkL l i = tkL l (l.length - 1) := by unfold tkL; rw [show min i (l.length - 1) = min (l.length - 1) (l.length - 1) by omega]
  rw [e]; exact h.last
theorem Ended.lt {l : List Tok} (h : Ended l) {i : Nat} (hk : (tkL l i).k ≠ 0) : i + 1 < l.length := by
  apply Nat.lt_of_not_le
  intro hc
  exact hk (h.out (by omega))
theorem isT_kind {t : Tok} {s : Str} (h : isT t s = true) : t.k ≠ 0 := by
  unfold isT at h
  simp only [Bool.and_eq_true, Bool.or_eq_true, beq_iff_eq] at h
  intro e
  rw [e] at h
  rcases h.1 with h | h <;> exact absurd h (by decide)
theorem Ended.isT {l : List Tok} (h : Ended l) {i : Nat} {s : Str} (hk : isT (tkL l i) s = true) : i + 1 < l.length := h.lt (isT_kind hk)
theorem Ended.one {l : List Tok} (h : Ended l) {i : Nat} (hk : (tkL l i).k = 1) : i + 1 < l.length := h.lt (by rw [hk]; decide)
theorem Ended.con {l : List Tok} (h : Ended l) {i : Nat} {v : V} (hk : constT (tkL l i) = some v) : i + 1 < l.length := by
  refine h.lt fun e => ?_
  unfold constT at hk
  rw [e] at hk
  rw [if_neg (by decide)] at hk
  cases hk
theorem Ended.term {l : List Tok} (h : Ended l) {i : Nat} {v : Trm} (hk : termT (tkL l i) = some v) : i + 1 < l.length := by
  unfold termT at hk
  split at hk
  · rename_i e; exact h.one e
  · cases hc : constT (tkL l i) with
    | none => rw [hc] at hk; cases hk
    | some v => exact h.con hc
theorem opT_kind {t : Tok} {o : Nat} (h : opT t = some o) : t.k ≠ 0 := by
  unfold opT at h
  obtain ⟨h1, h2, _⟩ := List.findIdx?_eq_some_iff_getElem.1 h
  exact isT_kind h2
end

/-! ### Ast3 -/
section

theorem firstE_end {α : Type} {f : α → Int} {l : List α} {k : Nat} (h : ¬ k < l.length) : firstE f (l.drop k) = 0 := by
  rw [List.drop_eq_nil_of_le (by omega)]; rfl
theorem firstE_on {α : Type} {f : α → Int} {l : List α} {k : Nat} (h : k < l.length) (h0 : f l[k] = 0) : firstE f (l.drop k) = firstE f (l.drop (k + 1)) := by
  rw [List.drop_eq_getElem_cons h, firstE, if_pos h0]
theorem firstE_at {α : Type} {f : α → Int} {l : List α} {k : Nat} (h : k < l.length) (h0 : f l[k] ≠ 0) : firstE f (l.drop k) = f l[k] := by
  rw [List.drop_eq_getElem_cons h, firstE, if_neg h0]
theorem headGo_end {l : List Str} {k : Nat} (h : ¬ k < l.length) : headGo (l.take k) (l.drop k) = 0 := by
  rw [List.drop_eq_nil_of_le (by omega)]; rfl
theorem headGo_on {l : List Str} {k : Nat} (h : k < l.length) (h1 : nameB l[k] = true) (h2 : l[k] ∉ l.take k) : headGo (l.take k) (l.drop k) = headGo (l.take (k + 1)) (l.drop (k + 1)) := by
  rw [List.drop_eq_getElem_cons h, headGo, if_neg (by rw [h1]; decide), if_neg h2, List.take_succ_eq_append_getElem h]
theorem headGo_name {l : List Str} {k : Nat} (h : k < l.length) (h1 : nameB l[k] = false) : headGo (l.take k) (l.drop k) = 7 := by
  rw [List.drop_eq_getElem_cons h, headGo, if_pos h1]
theorem headGo_twice {l : List Str} {k : Nat} (h : k < l.length) (h1 : nameB l[k] = true) (h2 : l[k] ∈ l.take k) : headGo (l.take k) (l.drop k) = 8 := by
  rw [List.drop_eq_getElem_cons h, headGo, if_neg (by rw [h1]; decide), if_pos h2]
/-- The keys' names so far. -/
def keysV (l : List Ky) : List Str := l.map (·.v)
theorem orderGo_end {hd : List Str} {l : List Ky} {k : Nat} (h : ¬ k < l.length) : orderGo hd (keysV (l.take k)) (l.drop k) = 0 := by
  rw [List.drop_eq_nil_of_le (by omega)]; rfl
theorem keysV_succ {l : List Ky} {k : Nat} (h : k < l.length) : keysV (l.take (k + 1)) = keysV (l.take k) ++ [l[k].v] := by
  unfold keysV
  rw [List.take_succ_eq_append_getElem h, List.map_append]; rfl
theorem orderGo_on {hd : List Str} {l : List Ky} {k : Nat} (h : k < l.length) (h1 : l[k].v ∈ hd) (h2 : l[k].v ∉ keysV (l.take k)) : orderGo hd (keysV (l.take k)) (l.drop k) = orderGo hd (keysV (l.take (k + 1))) (l.drop (k + 1)) := by
  rw [List.drop_eq_getElem_cons h, orderGo, if_pos h1, if_neg h2, keysV_succ h]
theorem orderGo_name {hd : List Str} {l : List Ky} {k : Nat} (h : k < l.length) (h1 : l[k].v ∉ hd) : orderGo hd (keysV (l.take k)) (l.drop k) = 7 := by
  rw [List.drop_eq_getElem_cons h, orderGo, if_neg h1]
theorem orderGo_twice {hd : List Str} {l : List Ky} {k : Nat} (h : k < l.length) (h1 : l[k].v ∈ hd) (h2 : l[k].v ∈ keysV (l.take k)) : orderGo hd (keysV (l.take k)) (l.drop k) = 8 := by
  rw [List.drop_eq_getElem_cons h, orderGo, if_pos h1, if_pos h2]

/-- Names gathered so far, without repetition, none of them empty. -/
theorem addN_in {acc : List Str} {v x : Str} : x ∈ addN acc v ↔ x ∈ acc ∨ (x = v ∧ v ≠ []) := by
  unfold addN
  by_cases h : v = [] ∨ v ∈ acc
  · rw [if_pos h]
    rcases h with rfl | h
    · simp
    · constructor
      · exact .inl
      · rintro (h1 | ⟨rfl, _⟩)
        · exact h1
        · exact h
  · rw [if_neg h]
    have h1 : v ≠ [] := fun e => h (.inl e)
    simp [h1]
theorem addNs_in : ∀ (l acc : List Str) (x : Str), x ∈ l.foldl addN acc ↔ x ∈ acc ∨ (x ∈ l ∧ x ≠ [])
  | [], acc, x => by simp
  | v :: l, acc, x => by
    rw [List.foldl_cons, addNs_in l (addN acc v) x, addN_in]
    constructor
    · rintro ((h | ⟨rfl, h⟩) | ⟨h1, h2⟩)
      · exact .inl h
      · exact .inr ⟨by simp, h⟩
      · exact .inr ⟨by simp [h1], h2⟩
    · rintro (h | ⟨h1, h2⟩)
      · exact .inl (.inl h)
      · rcases List.mem_cons.1 h1 with rfl | h1
        · exact .inl (.inr ⟨rfl, h2⟩)
        · exact .inr ⟨h1, h2⟩
theorem vars_in {r : Rul} {x : Str} : x ∈ varsL r ↔ x ∈ allVs r ∧ x ≠ [] := by
  unfold varsL
  rw [addNs_in]; simp
end

/-! ### Ast4 -/
section

/-- May the byte stand at the place k of a name? -/
def okAt (k : Nat) (c : UInt8) : Bool := letQ c || (decide (0 < k) && (c == 95 || (decide (48 ≤ c.toNat) && decide (c.toNat ≤ 57))))
def catFrom : Nat → List UInt8 → Bool
  | _, [] => true
  | k, c :: r => okAt k c && catFrom (k + 1) r
theorem okAt_pos {k : Nat} (h : 0 < k) (c : UInt8) : okAt k c = wrdQ c := by
  unfold okAt wrdQ
  rw [decide_eq_true h, Bool.true_and, Bool.or_assoc]
theorem okAt_zero (c : UInt8) : okAt 0 c = letQ c := by
  unfold okAt; simp
theorem catFrom_pos : ∀ (l : List UInt8) (k : Nat), 0 < k → catFrom k l = l.all wrdQ
  | [], _, _ => rfl
  | c :: r, k, h => by rw [catFrom, okAt_pos h, catFrom_pos r (k + 1) (by omega), List.all_cons]
theorem catB_from (l : Str) : catB l = (decide (0 < l.length) && (decide (l.length ≤ 16) && catFrom 0 l)) := by
  unfold catB
  match l with
  | [] => rfl
  | c :: r =>
    rw [catFrom, okAt_zero, catFrom_pos r 1 (by omega)]; rfl
theorem catFrom_end {l : List UInt8} {k : Nat} (h : ¬ k < l.length) : catFrom k (l.drop k) = true := by
  rw [List.drop_eq_nil_of_le (by omega)]; rfl
theorem catFrom_on {l : List UInt8} {k : Nat} (h : k < l.length) (h1 : okAt k l[k] = true) : catFrom k (l.drop k) = catFrom (k + 1) (l.drop (k + 1)) := by
  rw [List.drop_eq_getElem_cons h, catFrom, h1, Bool.true_and]
theorem catFrom_bad {l : List UInt8} {k : Nat} (h : k < l.length) (h1 : okAt k l[k] = false) : catFrom k (l.drop k) = false := by
  rw [List.drop_eq_getElem_cons h, catFrom, h1, Bool.false_and]
end

/-! ### RenD -/
section

def mapT (f : Str → Str) (t : Trm) : Trm := ⟨f t.v, t.c⟩
def mapA (f : Str → Str) (a : Atm) : Atm := ⟨a.neg, a.rel, a.ts.map (mapT f)⟩
def mapC (f : Str → Str) (c : Cnd) : Cnd := ⟨f c.v, c.op, c.c⟩
def mapR (f : Str → Str) (r : Rul) : Rul := ⟨r.atoms.map (mapA f), r.conds.map (mapC f)⟩
def mapKy (f : Str → Str) (k : Ky) : Ky := ⟨f k.v, k.desc⟩
/-- The query with a function applied to every variable. -/
def mapQ (f : Str → Str) (q : Qry) : Qry := ⟨q.head.map f, q.agg, f q.aggVar, q.rules.map (mapR f), q.order.map (mapKy f)⟩
end
end Go.Proofs.YtjhnopnppimnhaaGreatDoor
