/-
  SMALL FACTS for the laws that compare two checks: a row of rows of variables of the document's, an append of nothing, how many kinds a check tells.
-/
import Derived.Test.YtgeapgbebbapmaaRow3
import Derived.Test.YtgeapgbebbapmaaChk7
import Derived.Test.YtgeapgbebbapmaaLw21d
import Derived.Deep.AppendSrc
namespace Go.Proofs.Ytgeapgbebbapmaa
open Go.RowKit

/-- Nothing appended to an empty slice that is not nil. -/
theorem wpList_append_zero {P : Program} {w : World} {ops : Array Oper} {rest : List Oper} {o : Oper} {a : Act} {Q : Exit → Act → World → Prop} (hg : o.guard = none) (s x : Operand) (t : TypeId)
    (hop : o.op = Op.call { callee := Callee.builtin Builtin.append, args := #[s, x], argTypes := #[t, t] }) (e : TypeId) (i : TypeInfo) (h1 : P.underlying t = some (.slice e)) (h2 : P.info? e = some i)
    (b cap : Nat) (hs : a.eval s = .slice (some ⟨b, 0, none⟩) 0 cap) (A : Option Addr) (c : Nat) (hx : a.eval x = .slice A 0 c)
    (hK : wpList P ops Q rest (a.put o.dst (.slice (some ⟨b, 0, none⟩) 0 cap)) w) : wpList P ops Q (o :: rest) a w := by
  refine wpList_plain hg fun K hK' => ?_
  have hsrc : Src P i.size t (.slice A 0 c) 0 [] w := by
    cases A with
    | none => exact Src.ofNil w h1 c
    | some ad => exact Src.ofSlice w h1 ad 0 c [] (by simp) (by intro j u hj; simp at hj) (by intro u hu; simp at hu)
  have hrun := run_append_room_src w t t o.type e i h1 h2 b 0 0 cap (.slice A 0 c) 0 [] hsrc (by omega) (by intro j hj; simp at hj) (by intro j hj; simp at hj)
  unfold Oper.wp
  simp [execOp, hop, resolve, invoke, builtin, hs, hx, hrun, Result.andThen]
  exact hK' _ _ hK

/-- Whatever slice appended to a fresh empty one. -/
theorem wpList_append_fresh {P : Program} {w : World} {ops : Array Oper} {rest : List Oper} {o : Oper} {a : Act} {Q : Exit → Act → World → Prop} (hg : o.guard = none) (s x : Operand) (t : TypeId)
    (hop : o.op = Op.call { callee := Callee.builtin Builtin.append, args := #[s, x], argTypes := #[t, t] }) (e : TypeId) (i : TypeInfo) (z : Value) (size bytes : Nat) (h1 : P.underlying t = some (.slice e)) (h2 : P.info? e = some i) (h3 : i.zero = some z) (h4 : i.size = size) (h5 : i.bytes = bytes) (h6 : z.cells.size = size) (h7 : 0 < size)
    (b base : Nat) (hs : a.eval s = .slice (some ⟨b, 0, none⟩) 0 0) (hb : w.heap[b]? = some (.cells #[] e (0, 0))) (hbb : base ≤ b) (A : Option Addr) (n c : Nat) (news : List Value) (hx : a.eval x = .slice A n c) (hn : news.length = n * size)
    (hA : 0 < n → ∃ ad, A = some ad ∧ ∀ j u, news[j]? = some u → w.cell? (ad.add j) = some u) (h1c : ∀ u ∈ news, u.oneCell' = true) (b1 : n ≤ maxLen) (b2 : n * bytes ≤ 140737488355328)
    (hK : ∀ v' w', w'.ownsRow base e size v' n news → w.grownBy w' none → wpList P ops Q rest (a.put o.dst v') w') : wpList P ops Q (o :: rest) a w := by
  rcases Nat.eq_zero_or_pos n with h0 | hp
  · subst h0
    obtain rfl : news = [] := List.eq_nil_of_length_eq_zero (by simpa using hn)
    refine wpList_append_zero hg s x t hop e i h1 h2 b 0 hs A c hx (hK _ w ⟨by simp, .inr ⟨b, 0, #[], rfl, hbb, hb, by omega, by unfold maxLen; omega, by simp, by simp⟩⟩ ?_)
    exact ⟨rfl, rfl, rfl, Nat.le_refl _, fun _ _ _ => rfl⟩
  · obtain ⟨ad, rfl, hc⟩ := hA hp
    refine wpList_append_grows w hg s x t hop e i z size bytes h1 h2 h3 h4 h5 h6 h7 (some ⟨b, 0, none⟩) 0 0 [] hs (by intro h; cases h) (by simp) (by intro b0 h0 j u hj; simp at hj) ad n c news hx hn hc h1c (by omega) (by omega) (by rw [Nat.zero_add]; exact b2) ?_
    intro v' w' hown hgr
    have hlt := lt_of_block hb
    have h8 := own_mono (B := base) hown (by omega)
    simp only [List.nil_append, Nat.zero_add] at h8
    exact hK v' w' h8 hgr
theorem schs_read {w : World} {B : Option Addr} {S : List Sch} (h : SchsAt w B S) : ∃ f : Nat → List Value, (∀ i, (f i).length = 2) ∧ (∀ i (hi : i < S.length), SchC w S[i] (f i)) ∧ (0 < S.length → ∃ ad, B = some ad ∧ ∀ j u, ((List.range S.length).flatMap f)[j]? = some u → w.cell? (ad.add j) = some u) := by
  rcases Nat.eq_zero_or_pos S.length with h0 | hp
  · exact ⟨fun _ => [undef, undef], fun _ => rfl, fun i hi => absurd hi (by omega), fun h => absurd h (by omega)⟩
  · obtain ⟨b, o, f, e, h1, h2, _, h3⟩ := (schsC.1 h).read hp
    exact ⟨f, h1, h2, fun _ => ⟨_, e, h3⟩⟩
theorem cell_keep_add {w w' : World} {b o j : Nat} {v : Value} (hb : Below w.heap.size w w') (h : w.cell? (Addr.add ⟨b, o, none⟩ j) = some v) : w'.cell? (Addr.add ⟨b, o, none⟩ j) = some v := by
  rw [Addr.add_lit] at h ⊢
  exact cell_keep hb h
theorem add_keep {w w' : World} {ad : Addr} {j : Nat} {v : Value} (hb : Below w.heap.size w w') (h : w.cell? (ad.add j) = some v) : w'.cell? (ad.add j) = some v := by
  rw [hb.cell (p := ad.add j) (cell_lt h)]; exact h
theorem filter_on {α : Type} {p : α → Bool} {l : List α} {k : Nat} (h : k < l.length) (hp : p l[k] = true) : (l.take (k + 1)).filter p = (l.take k).filter p ++ [l[k]] := by
  rw [List.take_succ_eq_append_getElem h, List.filter_append]; simp [hp]
theorem filter_off {α : Type} {p : α → Bool} {l : List α} {k : Nat} (h : k < l.length) (hp : p l[k] = false) : (l.take (k + 1)).filter p = (l.take k).filter p := by
  rw [List.take_succ_eq_append_getElem h, List.filter_append]; simp [hp]
/-- Rows of the document's variables. -/
def UsR (w : World) (B : Nat) (us : List Value) (Ls : List Env) : Prop := us.length ≤ Ls.length ∧ ∀ i (h : i < us.length) (h' : i < Ls.length), w.ownsRow B 66 2 us[i] Ls[i].length (vrC Ls[i])
theorem UsR.nil {w : World} {B : Nat} {Ls : List Env} : UsR w B [] Ls := ⟨by simp, fun i hi => absurd hi (by simp)⟩
theorem UsR.below {w w' : World} {B : Nat} {us : List Value} {Ls : List Env} (h : UsR w B us Ls) (hb : Below w.heap.size w w') : UsR w' B us Ls := ⟨h.1, fun i hi hi' => own_belowS (h.2 i hi hi') hb⟩
theorem UsR.kept {w w' : World} {B : Nat} {us : List Value} {Ls : List Env} (h : UsR w B us Ls) {B2 e2 z2 n2 : Nat} {v2 : Value} {x2 : List Value} (h2 : w.ownsRow B2 e2 z2 v2 n2 x2) (he : e2 ≠ 66) (hg : w.grownBy w' v2.ownBlock) : UsR w' B us Ls :=
  ⟨h.1, fun i hi hi' => (h.2 i hi hi').kept hg (own_apart (h.2 i hi hi') h2 (fun e => he e.symm))⟩
theorem UsR.snoc2 {w : World} {B : Nat} {us : List Value} {Ls : List Env} (h : UsR w B us Ls) {u : Value} {j : Nat} (hj : us.length = j) (hlt : j < Ls.length) {l : Env} (he : Ls[j] = l) (hu : w.ownsRow B 66 2 u l.length (vrC l)) : UsR w B (us ++ [u]) Ls := by
  subst hj he
  refine ⟨by simp; omega, fun i hi hi' => ?_⟩
  by_cases h2 : i < us.length
  · rw [List.getElem_append_left h2]; exact h.2 i h2 hi'
  · have : i = us.length := by simp at hi; omega
    subst this
    simp only [List.getElem_concat_length]
    exact hu
theorem UsR.at {w : World} {B B2 : Nat} {us : List Value} {Ls : List Env} (h : UsR w B us Ls) (hl : us.length = Ls.length) {R : Value} {e : TypeId} (hR : w.ownsRow B2 e 1 R us.length us) : ∃ A c, R = .slice A Ls.length c ∧ VrssAt w A Ls ∧ Ls.length ≤ c := by
  have h2 := hR
  rcases hR.2 with ⟨rfl, h0⟩ | ⟨g, cap, cur, rfl, _, _, hn, _⟩
  · exact ⟨none, 0, by rw [← hl, h0], fun hp => absurd hp (by omega), by omega⟩
  · refine ⟨some ⟨g, 0, none⟩, cap, by rw [hl], fun _ => ⟨g, 0, rfl, fun i hi => ?_⟩, by omega⟩
    obtain ⟨A, c, hu, hv, hc⟩ := own_vars (h.2 i (by omega) hi)
    refine ⟨A, c, ?_, hv, hc⟩
    rw [h2.cellAt (0 + i) (by omega), Nat.zero_add, List.getElem?_eq_getElem (by omega), hu]
theorem infoVr2 : (Try.prog.info? 66).map (fun i => (i.zero, i.size, i.bytes)) = some (some (.agg #[.string ⟨#[]⟩, .int .i64 0]), 2, 24) := by kernel_rfl
theorem infoVrs2 : (Try.prog.info? 63).map (fun i => (i.zero, i.size, i.bytes)) = some (some (.slice none 0 0), 1, 24) := by kernel_rfl

/-- What a check tells is short. -/
structure Typ.few (t : Typ) : Prop where
  h : t.head.length ≤ 100000
  r : t.rules.length ≤ 100000
  v : ∀ l ∈ t.rules, l.length ≤ 100000
theorem checkQ_parts {q : Qry} (h : checkQ q = 0) : q.rules.length ≤ 3 ∧ q.head.length ≤ 6 ∧ ∀ r ∈ q.rules, (varsL r).length ≤ 8 := by
  unfold checkQ at h
  by_cases h0 : q.rules = []
  · rw [if_pos h0] at h; exact absurd h (by decide)
  rw [if_neg h0] at h
  by_cases h1 : 3 < q.rules.length ∨ (1 < q.rules.length ∧ q.agg ≠ 0)
  · rw [if_pos h1] at h; exact absurd h (by decide)
  rw [if_neg h1] at h
  by_cases h2 : headE q.head ≠ 0
  · rw [if_pos h2] at h; exact absurd h h2
  rw [if_neg h2] at h
  by_cases h3 : aggE q ≠ 0
  · rw [if_pos h3] at h; exact absurd h h3
  rw [if_neg h3] at h
  by_cases h4 : firstE (ruleE q) q.rules ≠ 0
  · rw [if_pos h4] at h; exact absurd h h4
  refine ⟨by omega, ?_, fun r hr => ?_⟩
  · have h2 : headE q.head = 0 := by simpa using h2
    unfold headE at h2
    by_cases h6 : 6 < q.head.length
    · rw [if_pos h6] at h2; exact absurd h2 (by decide)
    · omega
  · have h5 := firstE_zero (by simpa using h4) r hr
    unfold ruleE at h5
    by_cases h6 : itemsE r = 0
    · rw [if_pos h6] at h5
      by_cases h7 : 8 < (varsL r).length
      · rw [if_pos h7] at h5; exact absurd h5 (by decide)
      · omega
    · rw [if_neg h6] at h5; exact absurd h5 h6
theorem checkT_few (q : Qry) (S : List Sch) : (checkT q S).2.few := by
  have h0 : Typ.few ⟨[], []⟩ := ⟨by simp, by simp, fun l hl => by simp at hl⟩
  unfold checkT
  by_cases h : checkQ q ≠ 0
  · rw [if_pos h]; exact h0
  rw [if_neg h]
  obtain ⟨h1, h2, h3⟩ := checkQ_parts (q := q) (by simpa using h)
  split
  · exact h0
  split
  · exact h0
  split
  · exact h0
  split
  · exact h0
  refine ⟨by simp [typesOf]; omega, by simp [typesOf]; omega, fun l hl => ?_⟩
  simp only [typesOf, List.mem_map] at hl
  obtain ⟨p, hp, rfl⟩ := hl
  have := h3 p.1 (List.of_mem_zip hp).1
  rw [List.length_map]
  omega
theorem badB_len {S : List Sch} (h : badB S = false) : S.length ≤ 8 := by
  unfold badB at h
  simp only [Bool.not_eq_false', Bool.and_eq_true, decide_eq_true_eq] at h
  exact h.2
/-- The relations that rules use. -/
def usedL (l : List Rul) : List Str := l.flatMap fun r => r.atoms.map (·.rel)
theorem usedL_succ {l : List Rul} {k : Nat} (h : k < l.length) : usedL (l.take (k + 1)) = usedL (l.take k) ++ l[k].atoms.map (·.rel) := by
  unfold usedL
  rw [List.take_succ_eq_append_getElem h, List.flatMap_append]; simp
theorem used_in {l : List Rul} {r : Rul} {a : Atm} (hr : r ∈ l) (ha : a ∈ r.atoms) : a.rel ∈ usedL l := List.mem_flatMap.2 ⟨r, hr, List.mem_map.2 ⟨a, ha, rfl⟩⟩
/-- One schema more. -/
theorem sch_snoc {w : World} {L : List Sch} {f : Nat → List Value} (hC : ∀ i (hi : i < L.length), SchC w L[i] (f i)) {s : Sch} {cs : List Value} (hs : SchC w s cs) : ∀ i (hi : i < (L ++ [s]).length), SchC w (L ++ [s])[i] (if i < L.length then f i else cs) := by
  intro i hi
  by_cases h : i < L.length
  · rw [if_pos h]
    simp only [List.getElem_append_left h]
    exact hC i h
  · rw [if_neg h]
    have : i = L.length := by simp at hi; omega
    subst this
    simp only [List.getElem_concat_length]
    exact hs
end Go.Proofs.Ytgeapgbebbapmaa
