/-
  PLAIN: the text of a row read back: the program's road and the document's.
-/
import Derived.Test.YtkoajdbijlpgaaaDoorLex4
namespace Go.Proofs.YtkoajdbijlpgaaaDoor

/-- The bytes of a quoted string behind the place i, up to its closing mark (or the end). -/
def qGo : List UInt8 → Nat
  | [] => 0
  | c :: r => if c = 34 then 0 else if c = 92 then (match r with
    | [] => 2
    | _ :: r' => qGo r' + 2) else qGo r + 1
/-- The length of the literal at the beginning. -/
def litLen (l : List UInt8) : Nat :=
  if l.getD 0 0 = 34 then min (qGo (l.drop 1) + 2) l.length else (l.takeWhile (· != 44)).length

theorem litLen_le (l : List UInt8) : litLen l ≤ l.length := by
  unfold litLen
  split
  · omega
  · exact (List.takeWhile_prefix _).length_le

theorem qGo_34 (r : List UInt8) : qGo (34 :: r) = 0 := by rw [qGo.eq_def]; simp
theorem qGo_esc (x : UInt8) (r : List UInt8) : qGo (92 :: x :: r) = qGo r + 2 := by rw [qGo.eq_def]; simp
theorem qGo_plain {c : UInt8} (h1 : c ≠ 34) (h2 : c ≠ 92) (r : List UInt8) : qGo (c :: r) = qGo r + 1 := by rw [qGo.eq_def]; simp [h1, h2]

theorem qGo_strGo : ∀ (n : Nat) (l : List UInt8) (m : Nat), l.length ≤ n → strGo false l = some m → qGo l + 1 = m
  | n, [], m, _, h => by simp [strGo] at h
  | 0, c :: r, m, hl, h => by simp at hl
  | n + 1, c :: r, m, hl, h => by
    by_cases h34 : c = 34
    · subst h34
      rw [strGo, if_neg (by decide), if_pos rfl] at h
      injection h with h
      rw [qGo_34]; exact h
    · by_cases h92 : c = 92
      · subst h92
        match r with
        | [] => simp [strGo] at h
        | x :: r' =>
          rw [strGo_esc] at h
          simp only [Option.map_map, Option.map_eq_some_iff] at h
          obtain ⟨k, hk, rfl⟩ := h
          have := qGo_strGo n r' k (by simp at hl; omega) hk
          rw [qGo_esc]
          simp only [Function.comp]; omega
      · rw [strGo_plain h92 h34] at h
        simp only [Option.map_eq_some_iff] at h
        obtain ⟨k, hk, rfl⟩ := h
        have := qGo_strGo n r k (by simpa using hl) hk
        rw [qGo_plain h34 h92]; omega

theorem litLen_text {v : V} (hv : v.valid = true) (u : List UInt8) (hu : u = [] ∨ ∃ u', u = 44 :: u') : litLen (textL v ++ u) = (textL v).length := by
  have hne := textL_ne hv
  by_cases h1 : v.k = 1
  · have ht := textL_int hv h1
    have hb := itoa_bytes v.n
    rw [← ht] at hb
    unfold litLen
    rw [getD0_app hne]
    have h0 := hb ((textL v).getD 0 0) (by match textL v, hne with | x :: r, _ => exact List.mem_cons_self)
    rw [if_neg (by intro e; rw [e] at h0; revert h0; decide)]
    have hp : ∀ c ∈ textL v, (c != 44) = true := fun c hc => by
      have := hb c hc
      rw [bne_iff_ne]
      rintro rfl
      revert this; decide
    rcases hu with rfl | ⟨u', rfl⟩
    · rw [List.append_nil, ← List.append_nil (textL v), takeWhile_app _ _ hp]; simp
    · rw [takeWhile_app _ _ hp]; simp
  · have ht := textL_str hv h1
    unfold litLen
    rw [getD0_app hne]
    rw [if_pos (by rw [ht]; rfl)]
    have hs : strLen (textL v ++ u) = some (textL v).length := by rw [ht]; exact strLen_quote _ _
    have hs2 := hs
    unfold strLen at hs2
    simp only [Option.map_eq_some_iff] at hs2
    obtain ⟨m, hm, e⟩ := hs2
    have := qGo_strGo _ _ _ (Nat.le_refl _) hm
    rw [List.length_append]; omega

/-- The program's road. -/
def rowP (acc : List V) (l : List UInt8) : Option (List V) :=
  if (parseL (l.take (litLen l))).2 ≠ 0 then none
  else if l.drop (litLen l) = [] then some (acc ++ [(parseL (l.take (litLen l))).1])
  else if ([44, 32] : List UInt8).isPrefixOf (l.drop (litLen l)) = false then none
  else if h : (l.drop (litLen l)).length < 2 then none
  else rowP (acc ++ [(parseL (l.take (litLen l))).1]) ((l.drop (litLen l)).drop 2)
termination_by l.length
decreasing_by
  rw [List.length_drop] at h ⊢
  rw [List.length_drop]
  omega

/-- Values that a text can spell. -/
def Spelt (us : List V) : Prop := us ≠ [] ∧ ∀ v ∈ us, v.valid = true ∧ I64 v.n
theorem rowBody_one' (v : V) : rowBody [v] = textL v := by simp [rowBody]
theorem rowBody_more (v u : V) (us : List V) : rowBody (v :: u :: us) = textL v ++ ([44, 32] ++ rowBody (u :: us)) := by
  simp [rowBody]

theorem rowP_sound : ∀ (n : Nat) (l : List UInt8) (acc vs : List V), l.length ≤ n → rowP acc l = some vs → ∃ us, vs = acc ++ us ∧ Spelt us ∧ l = rowBody us := by
  intro n
  induction n with
  | zero =>
    intro l acc vs hl h
    have e : l = [] := List.eq_nil_of_length_eq_zero (by omega)
    subst e
    rw [rowP] at h
    simp [parseL] at h
  | succ n ih =>
    intro l acc vs hl h
    rw [rowP] at h
    split at h
    · cases h
    · rename_i h0
      have h0' : (parseL (l.take (litLen l))).2 = 0 := by simpa using h0
      obtain ⟨v, hv⟩ : ∃ v, parseL (l.take (litLen l)) = (v, 0) := ⟨_, Prod.ext rfl h0'⟩
      obtain ⟨g1, g2, g3, _⟩ := text_parse hv
      rw [hv] at h
      split at h
      · rename_i h1
        injection h with h
        refine ⟨[v], h.symm, ⟨by simp, by simpa using ⟨g1, g3⟩⟩, ?_⟩
        rw [rowBody_one', g2]
        have := List.take_append_drop (litLen l) l
        rw [h1, List.append_nil] at this
        exact this.symm
      · split at h
        · cases h
        · rename_i h2
          split at h
          · cases h
          · rename_i h3
            have hlt : ((l.drop (litLen l)).drop 2).length ≤ n := by
              rw [List.length_drop] at h3 ⊢
              rw [List.length_drop]; omega
            obtain ⟨us, e1, e2, e3⟩ := ih _ _ _ hlt h
            refine ⟨v :: us, by rw [e1]; simp, ⟨by simp, ?_⟩, ?_⟩
            · intro x hx
              rcases List.mem_cons.1 hx with rfl | hx
              · exact ⟨g1, g3⟩
              · exact e2.2 x hx
            · match us, e2.1 with
              | u :: us', _ =>
                rw [rowBody_more, ← e3, g2]
                have hp : ([44, 32] : List UInt8) <+: l.drop (litLen l) := by
                  rw [← List.isPrefixOf_iff_prefix]; simpa using h2
                have e4 := List.prefix_iff_eq_take.1 hp
                have e5 : [44, 32] ++ (l.drop (litLen l)).drop 2 = l.drop (litLen l) := by
                  conv => { lhs; lhs; rw [e4] }
                  exact List.take_append_drop 2 _
                rw [e5, List.take_append_drop]

theorem rowP_complete : ∀ (us acc : List V), Spelt us → rowP acc (rowBody us) = some (acc ++ us)
  | [], acc, h => absurd rfl h.1
  | [v], acc, h => by
    obtain ⟨h1, h2⟩ := h.2 v (by simp)
    have hl := litLen_text h1 [] (.inl rfl)
    rw [List.append_nil] at hl
    rw [rowBody_one', rowP, hl, List.take_length, parse_text h1 h2, if_neg (by simp), List.drop_length, if_pos rfl]
  | v :: u :: us, acc, h => by
    obtain ⟨h1, h2⟩ := h.2 v (by simp)
    have hl := litLen_text h1 ([44, 32] ++ rowBody (u :: us)) (.inr ⟨_, rfl⟩)
    have ih := rowP_complete (u :: us) (acc ++ [v]) ⟨by simp, fun x hx => h.2 x (by simp [hx])⟩
    rw [rowBody_more, rowP, hl, List.take_left, parse_text h1 h2, if_neg (by simp), List.drop_left, if_neg (by simp), if_neg (by simp), dif_neg (by simp)]
    simp only [List.cons_append, List.nil_append, List.drop_succ_cons, List.drop_zero]
    rw [ih]; simp

/-- The document's road. -/
def splitGo : Bool → Bool → List UInt8 → List UInt8 → List (List UInt8)
  | _, _, cur, [] => [cur]
  | q, e, cur, c :: r =>
    if q = false ∧ c = 44 ∧ r.getD 0 0 = 32 ∧ r ≠ [] then cur :: splitGo q e [] (r.drop 1)
    else splitGo (if c = 34 ∧ e = false then !q else q) ((if c = 34 ∧ e = false then !q else q) && (c == 92 && !e)) (cur ++ [c]) r
termination_by _ _ _ l => l.length
decreasing_by
  · simp only [List.length_drop, List.length_cons]; omega
  · simp
def joinC : List (List UInt8) → List UInt8
  | [] => []
  | [x] => x
  | x :: y :: r => x ++ ([44, 32] ++ joinC (y :: r))
theorem splitGo_ne (q e : Bool) (cur l : List UInt8) : splitGo q e cur l ≠ [] := by
  match l with
  | [] => rw [splitGo]; simp
  | c :: r =>
    rw [splitGo]
    split
    · simp
    · exact splitGo_ne _ _ _ r
termination_by l.length
theorem splitGo_join : ∀ (n : Nat) (l : List UInt8) (q e : Bool) (cur : List UInt8), l.length ≤ n → joinC (splitGo q e cur l) = cur ++ l
  | n, [], q, e, cur, _ => by rw [splitGo]; simp [joinC]
  | 0, c :: r, q, e, cur, h => by simp at h
  | n + 1, c :: r, q, e, cur, h => by
    rw [splitGo]
    split
    · rename_i g
      obtain ⟨_, rfl, g2, g3⟩ := g
      have ih := splitGo_join n (r.drop 1) q e [] (by simp at h ⊢; omega)
      match hs : splitGo q e [] (r.drop 1), splitGo_ne q e [] (r.drop 1) with
      | y :: ys, _ =>
        rw [joinC, ← hs, ih]
        match r, g3, g2 with
        | x :: r', _, g2 =>
          have g2' : x = 32 := g2
          subst g2'; rfl
    · rw [splitGo_join n r _ _ _ (by simpa using h)]; simp
/-- All parts read. -/
def allP : List (List UInt8) → Option (List V)
  | [] => some []
  | x :: r => if (parseL x).2 ≠ 0 then none else (allP r).map ((parseL x).1 :: ·)
theorem allP_sound : ∀ (ps : List (List UInt8)) (vs : List V), allP ps = some vs → (∀ v ∈ vs, v.valid = true ∧ I64 v.n) ∧ ps = vs.map textL
  | [], vs, h => by
    injection h with h; subst h; simp
  | x :: r, vs, h => by
    unfold allP at h
    split at h
    · cases h
    · rename_i h0
      have h0' : (parseL x).2 = 0 := by simpa using h0
      obtain ⟨v, hv⟩ : ∃ v, parseL x = (v, 0) := ⟨_, Prod.ext rfl h0'⟩
      obtain ⟨g1, g2, g3, _⟩ := text_parse hv
      rw [hv] at h
      simp only [Option.map_eq_some_iff] at h
      obtain ⟨us, hu, rfl⟩ := h
      obtain ⟨a1, a2⟩ := allP_sound r us hu
      refine ⟨?_, by rw [List.map_cons, g2, a2]⟩
      intro y hy
      rcases List.mem_cons.1 hy with rfl | hy
      · exact ⟨g1, g3⟩
      · exact a1 y hy
theorem allP_complete : ∀ (vs : List V), (∀ v ∈ vs, v.valid = true ∧ I64 v.n) → allP (vs.map textL) = some vs
  | [], _ => rfl
  | v :: vs, h => by
    obtain ⟨h1, h2⟩ := h v (by simp)
    rw [List.map_cons, allP, parse_text h1 h2, if_neg (by simp), allP_complete vs fun x hx => h x (by simp [hx])]; rfl
theorem joinC_body : ∀ (vs : List V), vs ≠ [] → joinC (vs.map textL) = rowBody vs
  | [], h => absurd rfl h
  | [v], _ => by rw [rowBody_one']; rfl
  | v :: u :: us, _ => by
    rw [rowBody_more, ← joinC_body (u :: us) (by simp)]; rfl

/-- Bytes that turn nothing outside of a string. -/
theorem split_calm : ∀ (x : List UInt8) (cur u : List UInt8), (∀ c ∈ x, c ≠ 34 ∧ c ≠ 44) → splitGo false false cur (x ++ u) = splitGo false false (cur ++ x) u
  | [], cur, u, _ => by simp
  | c :: x, cur, u, h => by
    obtain ⟨h1, h2⟩ := h c (by simp)
    rw [List.cons_append, splitGo, if_neg (by simp [h2])]
    simp only [h1, false_and, if_false, Bool.false_and]
    rw [split_calm x _ u fun y hy => h y (by simp [hy])]; simp
theorem split_in1 {c : UInt8} (h1 : c ≠ 34) (h2 : c ≠ 92) (cur u : List UInt8) : splitGo true false cur (c :: u) = splitGo true false (cur ++ [c]) u := by
  have e : (c == 92) = false := by simpa using h2
  rw [splitGo, if_neg (by simp)]
  simp [h1, e]
theorem split_esc (c : UInt8) (cur u : List UInt8) : splitGo true false cur (92 :: c :: u) = splitGo true false (cur ++ [92, c]) u := by
  rw [splitGo, if_neg (by simp)]
  have e1 : (if (92 : UInt8) = 34 ∧ false = false then !true else true) = true := by decide
  have e2 : (true && ((92 : UInt8) == 92 && !false)) = true := by decide
  rw [e1, e2, splitGo, if_neg (by simp)]
  simp
theorem split_spell (c : UInt8) (cur u : List UInt8) : splitGo true false cur (spell c ++ u) = splitGo true false (cur ++ spell c) u := by
  have hx : ∀ q : Nat, q < 16 → hexd q ≠ 34 ∧ hexd q ≠ 92 := by decide
  have hc : c.toNat < 256 := c.toNat_lt
  unfold spell
  split
  · exact split_esc _ _ _
  · split
    · exact split_esc _ _ _
    · split
      · exact split_esc _ _ _
      · split
        · rename_i g1 _ _ _
          have h1 : c ≠ 92 := fun e => g1 (.inr (by rw [e]; rfl))
          have h2 : c ≠ 34 := fun e => g1 (.inl (by rw [e]; rfl))
          exact split_in1 h2 h1 _ _
        · obtain ⟨a1, a2⟩ := hx (c.toNat / 16) (by omega)
          obtain ⟨b1, b2⟩ := hx (c.toNat % 16) (by omega)
          simp only [List.cons_append, List.nil_append]
          rw [split_esc, split_in1 a1 a2, split_in1 b1 b2]
          simp
theorem split_spells : ∀ (l cur u : List UInt8), splitGo true false cur (l.flatMap spell ++ u) = splitGo true false (cur ++ l.flatMap spell) u
  | [], cur, u => by simp
  | c :: l, cur, u => by
    rw [List.flatMap_cons, List.append_assoc, split_spell, split_spells l, List.append_assoc]
theorem split_text {v : V} (hv : v.valid = true) (cur u : List UInt8) : splitGo false false cur (textL v ++ u) = splitGo false false (cur ++ textL v) u := by
  by_cases h1 : v.k = 1
  · rw [textL_int hv h1]
    refine split_calm _ _ _ fun c hc => ?_
    have := itoa_bytes v.n c hc
    constructor
    · rintro rfl; revert this; decide
    · rintro rfl; revert this; decide
  · rw [textL_str hv h1]
    unfold quoteL
    rw [List.cons_append, splitGo, if_neg (by simp)]
    have e1 : (if (34 : UInt8) = 34 ∧ false = false then !false else false) = true := by decide
    have e2 : (true && ((34 : UInt8) == 92 && !false)) = false := by decide
    rw [e1, e2, List.append_assoc, split_spells]
    rw [List.cons_append, List.nil_append, splitGo, if_neg (by simp)]
    have e3 : (if (34 : UInt8) = 34 ∧ false = false then !true else true) = false := by decide
    rw [e3, Bool.false_and]
    simp
theorem split_body : ∀ (vs : List V) (cur : List UInt8), vs ≠ [] → (∀ v ∈ vs, v.valid = true) → ∃ x r, vs.map textL = x :: r ∧ splitGo false false cur (rowBody vs) = (cur ++ x) :: r
  | [], cur, h, _ => absurd rfl h
  | [v], cur, _, h => by
    refine ⟨textL v, [], rfl, ?_⟩
    have := split_text (h v (by simp)) cur []
    rw [List.append_nil] at this
    rw [rowBody_one', this, splitGo]
  | v :: u :: us, cur, _, h => by
    obtain ⟨x, r, e1, e2⟩ := split_body (u :: us) [] (by simp) fun y hy => h y (by simp [hy])
    refine ⟨textL v, x :: r, by rw [List.map_cons, e1], ?_⟩
    rw [rowBody_more, split_text (h v (by simp))]
    simp only [List.cons_append, List.nil_append]
    rw [splitGo, if_pos (by simp)]
    simp only [List.drop_succ_cons, List.drop_zero]
    rw [e2]; rfl

/-- What both roads come to. -/
theorem roads (l : List UInt8) : allP (splitGo false false [] l) = rowP [] l := by
  have key : ∀ vs, (allP (splitGo false false [] l) = some vs ↔ rowP [] l = some vs) := by
    intro vs
    constructor
    · intro h
      obtain ⟨h1, h2⟩ := allP_sound _ _ h
      have hne : vs ≠ [] := by
        rintro rfl
        exact splitGo_ne false false [] l h2
      have hj := splitGo_join _ l false false [] (Nat.le_refl _)
      rw [h2, joinC_body vs hne, List.nil_append] at hj
      rw [← hj]
      have := rowP_complete vs [] ⟨hne, h1⟩
      simpa using this
    · intro h
      obtain ⟨us, e1, e2, e3⟩ := rowP_sound _ l [] vs (Nat.le_refl _) h
      rw [List.nil_append] at e1
      subst e1
      obtain ⟨x, r, f1, f2⟩ := split_body vs [] e2.1 fun v hv => (e2.2 v hv).1
      rw [e3, f2, List.nil_append, ← f1]
      exact allP_complete vs e2.2
  cases h : rowP [] l with
  | some vs => exact (key vs).2 h
  | none =>
    cases h2 : allP (splitGo false false [] l) with
    | none => rfl
    | some vs => rw [(key vs).1 h2] at h; cases h
end Go.Proofs.YtkoajdbijlpgaaaDoor
