/-
  PARTS of a claim, merged by segs.py: Ast3, Ast4, RenD, PsN, PgP, Lex6, Lex7.
-/
import Derived.Test.YtnbacdmlaedppaaGreatDoorQ02
import Derived.Test.YtnbacdmlaedppaaGreatDoorQ03
import Derived.Test.YtnbacdmlaedppaaGreatDoorQ04
namespace Go.Proofs.YtnbacdmlaedppaaGreatDoor

/-! ### Ast3 -/
section

theorem firstE_end {α : Type} {f : α → Int} {l : List α} {k : Nat} (h : ¬ k < l.length) : firstE f (l.drop k) = 0 := by
  rw [List.drop_eq_nil_of_le (by omega)]; rfl
theorem firstE_on {α : Type} {f : α → Int} {l : List α} {k : Nat} (h : k < l.length) (h0 : f l[k] = 0) : firstE f (l.drop k) = firstE f (l.drop (k + 1)) := by
  rw [List.drop_eq_getElem_cons h, firstE, if_pos h0]
theorem firstE_at {α : Type} {f : α → Int} {l : List α} {k : Nat} (h : k < l.length) (h0 : f l[k] ≠ 0) : firstE f (l.drop k) = f l[k] := by
  rw [List.drop_eq_getElem_cons h, firstE, if_neg h0]
theorem headGo_end {l : List Str} {k : Nat} (h : ¬ k < l.length) : headGo (l.take k) (l.drop k) = 0 := by
  rw [List.drop_eq_nil_of_le (by omega)]; rfl
theorem headGo_on {l : List Str} {k : Nat} (h : k < l.length) (h1 : nameB l[k] = true) (h2 : l[k] ∉ l.take k) : headGo (l.take k) (l.drop k) = headGo (l.take (k + 1)) (l.drop (k + 1)) := by
  rw [List.drop_eq_getElem_cons h, headGo, if_neg (by rw [h1]; decide), if_neg h2, List.take_succ_eq_append_getElem h]
theorem headGo_name {l : List Str} {k : Nat} (h : k < l.length) (h1 : nameB l[k] = false) : headGo (l.take k) (l.drop k) = 7 := by
  rw [List.drop_eq_getElem_cons h, headGo, if_pos h1]
theorem headGo_twice {l : List Str} {k : Nat} (h : k < l.length) (h1 : nameB l[k] = true) (h2 : l[k] ∈ l.take k) : headGo (l.take k) (l.drop k) = 8 := by
  rw [List.drop_eq_getElem_cons h, headGo, if_neg (by rw [h1]; decide), if_pos h2]
/-- The keys' names so far. -/
def keysV (l : List Ky) : List Str := l.map (·.v)
theorem orderGo_end {hd : List Str} {l : List Ky} {k : Nat} (h : ¬ k < l.length) : orderGo hd (keysV (l.take k)) (l.drop k) = 0 := by
  rw [List.drop_eq_nil_of_le (by omega)]; rfl
theorem keysV_succ {l : List Ky} {k : Nat} (h : k < l.length) : keysV (l.take (k + 1)) = keysV (l.take k) ++ [l[k].v] := by
  unfold keysV
  rw [List.take_succ_eq_append_getElem h, List.map_append]; rfl
theorem orderGo_on {hd : List Str} {l : List Ky} {k : Nat} (h : k < l.length) (h1 : l[k].v ∈ hd) (h2 : l[k].v ∉ keysV (l.take k)) : orderGo hd (keysV (l.take k)) (l.drop k) = orderGo hd (keysV (l.take (k + 1))) (l.drop (k + 1)) := by
  rw [List.drop_eq_getElem_cons h, orderGo, if_pos h1, if_neg h2, keysV_succ h]
theorem orderGo_name {hd : List Str} {l : List Ky} {k : Nat} (h : k < l.length) (h1 : l[k].v ∉ hd) : orderGo hd (keysV (l.take k)) (l.drop k) = 7 := by
  rw [List.drop_eq_getElem_cons h, orderGo, if_neg h1]
theorem orderGo_twice {hd : List Str} {l : List Ky} {k : Nat} (h : k < l.length) (h1 : l[k].v ∈ hd) (h2 : l[k].v ∈ keysV (l.take k)) : orderGo hd (keysV (l.take k)) (l.drop k) = 8 := by
  rw [List.drop_eq_getElem_cons h, orderGo, if_pos h1, if_pos h2]

/-- Names gathered so far, without repetition, none of them empty. -/
theorem addN_in {acc : List Str} {v x : Str} : x ∈ addN acc v ↔ x ∈ acc ∨ (x = v ∧ v ≠ []) := by
  unfold addN
  by_cases h : v = [] ∨ v ∈ acc
  · rw [if_pos h]
    rcases h with rfl | h
    · simp
    · constructor
      · exact .inl
      · rintro (h1 | ⟨rfl, _⟩)
        · exact h1
        · exact h
  · rw [if_neg h]
    have h1 : v ≠ [] := fun e => h (.inl e)
    simp [h1]
theorem addNs_in : ∀ (l acc : List Str) (x : Str), x ∈ l.foldl addN acc ↔ x ∈ acc ∨ (x ∈ l ∧ x ≠ [])
  | [], acc, x => by simp
  | v :: l, acc, x => by
    rw [List.foldl_cons, addNs_in l (addN acc v) x, addN_in]
    constructor
    · rintro ((h | ⟨rfl, h⟩) | ⟨h1, h2⟩)
      · exact .inl h
      · exact .inr ⟨by simp, h⟩
      · exact .inr ⟨by simp [h1], h2⟩
    · rintro (h | ⟨h1, h2⟩)
      · exact .inl (.inl h)
      · rcases List.mem_cons.1 h1 with rfl | h1
        · exact .inl (.inr ⟨rfl, h2⟩)
        · exact .inr ⟨h1, h2⟩
theorem vars_in {r : Rul} {x : Str} : x ∈ varsL r ↔ x ∈ allVs r ∧ x ≠ [] := by
  unfold varsL
  rw [addNs_in]; simp
end

/-! ### Ast4 -/
section

/-- May the byte stand at the place k of a name? -/
def okAt (k : Nat) (c : UInt8) : Bool := letQ c || (decide (0 < k) && (c == 95 || (decide (48 ≤ c.toNat) && decide (c.toNat ≤ 57))))
def catFrom : Nat → List UInt8 → Bool
  | _, [] => true
  | k, c :: r => okAt k c && catFrom (k + 1) r
theorem okAt_pos {k : Nat} (h : 0 < k) (c : UInt8) : okAt k c = wrdQ c := by
  unfold okAt wrdQ
  rw [decide_eq_true h, Bool.true_and, Bool.or_assoc]
theorem okAt_zero (c : UInt8) : okAt 0 c = letQ c := by
  unfold okAt; simp
theorem catFrom_pos : ∀ (l : List UInt8) (k : Nat), 0 < k → catFrom k l = l.all wrdQ
  | [], _, _ => rfl
  | c :: r, k, h => by rw [catFrom, okAt_pos h, catFrom_pos r (k + 1) (by omega), List.all_cons]
theorem catB_from (l : Str) : catB l = (decide (0 < l.length) && (decide (l.length ≤ 16) && catFrom 0 l)) := by
  unfold catB
  match l with
  | [] => rfl
  | c :: r =>
    rw [catFrom, okAt_zero, catFrom_pos r 1 (by omega)]; rfl
theorem catFrom_end {l : List UInt8} {k : Nat} (h : ¬ k < l.length) : catFrom k (l.drop k) = true := by
  rw [List.drop_eq_nil_of_le (by omega)]; rfl
theorem catFrom_on {l : List UInt8} {k : Nat} (h : k < l.length) (h1 : okAt k l[k] = true) : catFrom k (l.drop k) = catFrom (k + 1) (l.drop (k + 1)) := by
  rw [List.drop_eq_getElem_cons h, catFrom, h1, Bool.true_and]
theorem catFrom_bad {l : List UInt8} {k : Nat} (h : k < l.length) (h1 : okAt k l[k] = false) : catFrom k (l.drop k) = false := by
  rw [List.drop_eq_getElem_cons h, catFrom, h1, Bool.false_and]
end

/-! ### RenD -/
section

def mapT (f : Str → Str) (t : Trm) : Trm := ⟨f t.v, t.c⟩
def mapA (f : Str → Str) (a : Atm) : Atm := ⟨a.neg, a.rel, a.ts.map (mapT f)⟩
def mapC (f : Str → Str) (c : Cnd) : Cnd := ⟨f c.v, c.op, c.c⟩
def mapR (f : Str → Str) (r : Rul) : Rul := ⟨r.atoms.map (mapA f), r.conds.map (mapC f)⟩
def mapKy (f : Str → Str) (k : Ky) : Ky := ⟨f k.v, k.desc⟩
/-- The query with a function applied to every variable. -/
def mapQ (f : Str → Str) (q : Qry) : Qry := ⟨q.head.map f, q.agg, f q.aggVar, q.rules.map (mapR f), q.order.map (mapKy f)⟩
end

/-! ### PsN -/
section

section
variable {L : List Tok}
theorem termsS_nx (hE : Ended L) : ∀ {f i nx : Nat} {acc ts : List Trm}, termsS (tkL L) f i acc = .ok ts nx → i < nx ∧ nx < L.length
  | 0, i, nx, acc, ts, e => by cases e
  | f + 1, i, nx, acc, ts, e => by
    unfold termsS at e
    cases ht : termT (tkL L i) with
    | none => rw [ht] at e; cases e
    | some t =>
      rw [ht] at e
      simp only at e
      split at e
      · rename_i h
        injection e with _ e2
        have := hE.isT h
        omega
      · split at e
        · have := termsS_nx hE e; omega
        · cases e
theorem parenS_nx (hE : Ended L) {f i nx : Nat} {ts : List Trm} (e : parenS (tkL L) f i = .ok ts nx) : i < nx ∧ nx < L.length := by
  unfold parenS at e
  split at e
  · rename_i h
    injection e with _ e2
    have := hE.isT h
    omega
  · exact termsS_nx hE e
theorem itemS_nx (hE : Ended L) {n i nx : Nat} {r r' : Rul} (e : itemS (tkL L) n i r = .ok r' nx) : i < nx ∧ nx < L.length ∧ r'.atoms.length ≤ r.atoms.length + 1 ∧ r'.conds.length ≤ r.conds.length + 1 := by
  unfold itemS at e
  simp only at e
  obtain ⟨j, hj⟩ : ∃ j, (if isT (tkL L i) sNot = true then i + 1 else i) = j := ⟨_, rfl⟩
  rw [hj] at e
  have hij : i ≤ j := by rw [← hj]; split <;> omega
  split at e
  · cases e
  · split at e
    · cases hp : parenS (tkL L) n (j + 2) with
      | bad x => rw [hp] at e; cases e
      | ok ts nx2 =>
        rw [hp] at e
        injection e with e1 e2
        subst e1
        have := parenS_nx hE hp
        refine ⟨by omega, by omega, by simp, by show r.conds.length ≤ _; omega⟩
    · split at e
      · cases e
      · cases ho : opT (tkL L (j + 1)) with
        | none => rw [ho] at e; cases e
        | some o =>
          rw [ho] at e
          simp only at e
          cases hc : constT (tkL L (j + 2)) with
          | none => rw [hc] at e; cases e
          | some v =>
            rw [hc] at e
            injection e with e1 e2
            subst e1
            have := hE.con hc
            refine ⟨by omega, by omega, by show r.atoms.length ≤ _; omega, by simp⟩
theorem ruleS_nx (hE : Ended L) {n : Nat} : ∀ {f i nx : Nat} {r r' : Rul}, ruleG (tkL L) n f i r = .ok r' nx → i < nx ∧ nx < L.length
  | 0, i, nx, r, r', e => by cases e
  | f + 1, i, nx, r, r', e => by
    unfold ruleG at e
    cases hi : itemS (tkL L) n i r with
    | bad x => rw [hi] at e; cases e
    | ok r2 nx2 =>
      rw [hi] at e
      simp only at e
      have h2 := itemS_nx hE hi
      split at e
      · have := ruleS_nx hE e; omega
      · injection e with _ e2; omega
theorem namesS_nx (hE : Ended L) : ∀ {f i nx : Nat} {acc l : List Str}, namesS (tkL L) f i acc = .ok l nx → i < nx ∧ nx < L.length
  | 0, i, nx, acc, l, e => by cases e
  | f + 1, i, nx, acc, l, e => by
    unfold namesS at e
    split at e
    · cases e
    · rename_i hk
      have := hE.one (by simpa using hk)
      split at e
      · have := namesS_nx hE e; omega
      · injection e with _ e2; omega
theorem keysS_nx (hE : Ended L) : ∀ {f i nx : Nat} {acc l : List Ky}, keysS (tkL L) f i acc = .ok l nx → i < nx ∧ nx < L.length
  | 0, i, nx, acc, l, e => by cases e
  | f + 1, i, nx, acc, l, e => by
    unfold keysS at e
    split at e
    · cases e
    · rename_i hk
      have h1 := hE.one (i := i) (by simpa using hk)
      simp only at e
      obtain ⟨j, hj⟩ : ∃ j, (if isT (tkL L (i + 1)) sDesc = true then i + 2 else i + 1) = j := ⟨_, rfl⟩
      rw [hj] at e
      have hij : i < j ∧ j < L.length := by
        rw [← hj]
        split
        · rename_i h; have := hE.isT h; omega
        · omega
      split at e
      · have := keysS_nx hE e; omega
      · injection e with _ e2; omega
theorem aggS_nx (hE : Ended L) {i nx : Nat} {q q' : Qry} (e : aggG (tkL L) i q = .ok q' nx) : i < nx ∧ nx < L.length := by
  unfold aggG at e
  split at e
  · rename_i h
    injection e with _ e2
    have := hE.isT h
    omega
  · cases ha : aggT (tkL L i) with
    | none => rw [ha] at e; cases e
    | some a =>
      rw [ha] at e
      simp only at e
      split at e
      · cases e
      · rename_i hk
        injection e with _ e2
        have := hE.one (i := i + 1) (by simpa using hk)
        omega
theorem endS_nx (hE : Ended L) {i nx : Nat} {q q' : Qry} (e : endS (tkL L) i q = .ok q' nx) : i < nx ∧ nx < L.length := by
  unfold endS at e
  split at e
  · split at e
    · rename_i h
      injection e with _ e2
      have := hE.isT h
      omega
    · cases e
  · cases e
theorem semiS_nx (hE : Ended L) {i nx : Nat} {q q' : Qry} (e : semiS (tkL L) i q = .ok q' nx) : i < nx ∧ nx < L.length := by
  unfold semiS at e
  split at e
  · cases ha : aggG (tkL L) (i + 1) q with
    | bad x => rw [ha] at e; cases e
    | ok q2 nx2 =>
      rw [ha] at e
      have h1 := aggS_nx hE ha
      have h2 := endS_nx hE e
      omega
  · exact endS_nx hE e
theorem headS_nx (hE : Ended L) {n nx : Nat} {q : Qry} (e : headG (tkL L) n = .ok q nx) : 0 < nx ∧ nx < L.length := by
  unfold headG at e
  split at e
  · cases e
  · split at e
    · cases e
    · split at e
      · cases hn : namesS (tkL L) n 2 [] with
        | bad x => rw [hn] at e; cases e
        | ok h nx2 =>
          rw [hn] at e
          have h1 := namesS_nx hE hn
          have h2 := semiS_nx hE e
          omega
      · have h2 := semiS_nx hE e
        omega
end
end

/-! ### PgP -/
section

section
variable {σ : Type} (tk : Nat → Tok) (sep : Str) (step : Nat → σ → Out σ)
/-- One or more elements with a separator between any two. -/
def listS : Nat → Nat → σ → Out σ
  | 0, i, _ => .bad i
  | f + 1, i, s => match step i s with
    | .bad b => .bad b
    | .ok s' nx => if isT (tk nx) sep = true then listS f (nx + 1) s' else .ok s' nx
end
section
variable {tk : Nat → Tok}
theorem listS_rule {n : Nat} : ∀ {f i : Nat} {r : Rul}, listS tk sComma (itemS tk n) f i r = ruleG tk n f i r
  | 0, _, _ => rfl
  | f + 1, i, r => by
    unfold listS ruleG
    cases itemS tk n i r with
    | bad b => rfl
    | ok r' nx => simp only; rw [listS_rule]
def nameStep (tk : Nat → Tok) (i : Nat) (acc : List Str) : Out (List Str) := if (tk i).k ≠ 1 then .bad i else .ok (acc ++ [(tk i).t]) (i + 1)
theorem listS_names : ∀ {f i : Nat} {acc : List Str}, listS tk sComma (nameStep tk) f i acc = namesS tk f i acc
  | 0, _, _ => rfl
  | f + 1, i, acc => by
    rw [listS, namesS]
    by_cases h : (tk i).k ≠ 1
    · rw [show nameStep tk i acc = .bad i from if_pos h, if_pos h]
    · rw [show nameStep tk i acc = .ok (acc ++ [(tk i).t]) (i + 1) from if_neg h, if_neg h]
      simp only
      rw [listS_names]
def keyStep (tk : Nat → Tok) (i : Nat) (acc : List Ky) : Out (List Ky) := if (tk i).k ≠ 1 then .bad i else
  if isT (tk (i + 1)) sDesc = true then .ok (acc ++ [⟨(tk i).t, true⟩]) (i + 2) else .ok (acc ++ [⟨(tk i).t, false⟩]) (i + 1)
theorem listS_keys : ∀ {f i : Nat} {acc : List Ky}, listS tk sComma (keyStep tk) f i acc = keysS tk f i acc
  | 0, _, _ => rfl
  | f + 1, i, acc => by
    rw [listS, keysS]
    by_cases h : (tk i).k ≠ 1
    · rw [show keyStep tk i acc = .bad i from if_pos h, if_pos h]
    · rw [show keyStep tk i acc = if isT (tk (i + 1)) sDesc = true then .ok (acc ++ [⟨(tk i).t, true⟩]) (i + 2) else .ok (acc ++ [⟨(tk i).t, false⟩]) (i + 1) from if_neg h, if_neg h]
      cases hd : isT (tk (i + 1)) sDesc with
      | true => simp only [if_true]; rw [listS_keys]
      | false => simp only [Bool.false_eq_true, if_false]; rw [listS_keys]
def ruleStep (tk : Nat → Tok) (n : Nat) (i : Nat) (acc : List Rul) : Out (List Rul) := match ruleG tk n n i ⟨[], []⟩ with
  | .bad e => .bad e
  | .ok r nx => .ok (acc ++ [r]) nx
theorem listS_rules {n : Nat} : ∀ {f i : Nat} {acc : List Rul}, listS tk sBar (ruleStep tk n) f i acc = rulesS tk n f i acc
  | 0, _, _ => rfl
  | f + 1, i, acc => by
    rw [listS, rulesS]
    cases hr : ruleG tk n n i ⟨[], []⟩ with
    | bad b => rw [show ruleStep tk n i acc = .bad b by unfold ruleStep; rw [hr]]
    | ok r' nx => rw [show ruleStep tk n i acc = .ok (acc ++ [r']) nx by unfold ruleStep; rw [hr]]; simp only; rw [listS_rules]
def termStep (tk : Nat → Tok) (i : Nat) (acc : List Trm) : Out (List Trm) := match termT (tk i) with
  | none => .bad i
  | some t => .ok (acc ++ [t]) (i + 1)
def shutS (tk : Nat → Tok) (o : Out (List Trm)) : Out (List Trm) := match o with
  | .bad b => .bad b
  | .ok ts nx => if isT (tk nx) sShut = true then .ok ts (nx + 1) else .bad nx
theorem isT_two {t : Tok} {a b : Str} (ha : isT t a = true) (hab : a ≠ b) : isT t b = false := by
  unfold isT at *
  simp only [Bool.and_eq_true, beq_iff_eq] at ha
  rw [ha.2]
  simp [hab]
theorem listS_terms : ∀ {f i : Nat} {acc : List Trm}, shutS tk (listS tk sComma (termStep tk) f i acc) = termsS tk f i acc
  | 0, _, _ => rfl
  | f + 1, i, acc => by
    rw [listS, termsS]
    cases ht : termT (tk i) with
    | none => rw [show termStep tk i acc = .bad i by unfold termStep; rw [ht]]; rfl
    | some t =>
      rw [show termStep tk i acc = .ok (acc ++ [t]) (i + 1) by unfold termStep; rw [ht]]
      simp only
      cases hs : isT (tk (i + 1)) sShut with
      | true =>
        rw [isT_two hs (by decide)]
        simp [shutS, hs]
      | false =>
        cases hc : isT (tk (i + 1)) sComma with
        | true => simp only [if_true, Bool.false_eq_true, if_false]; rw [listS_terms]
        | false => simp [shutS, hs]
end
section
variable {L : List Tok}
theorem termStep_nx (hE : Ended L) {i nx : Nat} {a b : List Trm} (e : termStep (tkL L) i a = .ok b nx) : i < nx ∧ nx < L.length := by
  unfold termStep at e
  cases ht : termT (tkL L i) with
  | none => rw [ht] at e; cases e
  | some t => rw [ht] at e; injection e with _ e2; have := hE.term ht; omega
theorem nameStep_nx (hE : Ended L) {i nx : Nat} {a b : List Str} (e : nameStep (tkL L) i a = .ok b nx) : i < nx ∧ nx < L.length := by
  unfold nameStep at e
  split at e
  · cases e
  · rename_i h
    injection e with _ e2; have := hE.one (i := i) (by simpa using h); omega
theorem keyStep_nx (hE : Ended L) {i nx : Nat} {a b : List Ky} (e : keyStep (tkL L) i a = .ok b nx) : i < nx ∧ nx < L.length := by
  unfold keyStep at e
  split at e
  · cases e
  · rename_i h
    have h1 := hE.one (i := i) (by simpa using h)
    split at e
    · rename_i h2
      have := hE.isT h2
      injection e with _ e2; omega
    · injection e with _ e2; omega
theorem ruleStep_nx (hE : Ended L) {n i nx : Nat} {a b : List Rul} (e : ruleStep (tkL L) n i a = .ok b nx) : i < nx ∧ nx < L.length := by
  unfold ruleStep at e
  cases hr : ruleG (tkL L) n n i ⟨[], []⟩ with
  | bad b => rw [hr] at e; cases e
  | ok r nx2 => rw [hr] at e; injection e with _ e2; have := ruleS_nx hE hr; omega
theorem itemStep_nx (hE : Ended L) {n i nx : Nat} {a b : Rul} (e : itemS (tkL L) n i a = .ok b nx) : i < nx ∧ nx < L.length := ⟨(itemS_nx hE e).1, (itemS_nx hE e).2.1⟩
end
end

/-! ### Lex6 -/
section

theorem Sc.bounds {l : List UInt8} {a : Int} {ts : List Tok} (h : Sc l a ts) : ∀ t ∈ ts, a ≤ t.a ∧ t.a ≤ a + l.length := by
  induction h with
  | nil a => intro t ht; obtain rfl : t = _ := by simpa using ht
             simp
  | white h hs ih =>
    intro t ht
    have := ih t ht
    simp only [List.length_cons]; omega
  | @tok r a t ts hr hw h hs ih =>
    intro u hu
    obtain ⟨hp, _, ha, _⟩ := nextL_ok hr h
    have hle := hp.length_le
    rcases List.mem_cons.1 hu with rfl | hu
    · omega
    · have := ih u hu
      rw [List.length_drop] at this
      omega

theorem scanL_join {s u : List UInt8} {ts us : List Tok} {q q' : Int} (h : scanL s = (ts, q, 0)) (h' : scanL u = (us, q', 0)) (hl : s.length + u.length ≤ 1000) :
    scanL (s ++ 10 :: u) = (ts.dropLast ++ us.map (Tok.sh (s.length + 1)), 0, 0) := by
  refine scanL_sc (by simp; omega) (Sc.join (by decide) (scanL_ok h).1 ?_)
  have := (scanL_ok h').1.shift ((s.length : Int) + 1)
  rw [show (0 : Int) + (s.length : Int) + 1 = 0 + ((s.length : Int) + 1) by omega]
  exact this

theorem join_nth {ts us : List Tok} {n : Nat} (hn : ts.length = n + 1) (d : Int) (k : Nat) (h : k < (ts.dropLast ++ us).length) (h' : k < (ts.dropLast ++ us.map (Tok.sh d)).length) :
    ∃ x : Tok, (ts.dropLast ++ us)[k] = x ∧ (ts.dropLast ++ us.map (Tok.sh d))[k] = ⟨x.k, x.t, x.v, if n ≤ k then x.a + d else x.a⟩ ∧ (x ∈ ts ∨ x ∈ us) := by
  have hd : ts.dropLast.length = n := by rw [List.length_dropLast]; omega
  refine ⟨_, rfl, ?_, ?_⟩
  · by_cases hk : n ≤ k
    · rw [if_pos hk, List.getElem_append_right (by omega), List.getElem_append_right (by omega), List.getElem_map]; rfl
    · rw [if_neg hk, List.getElem_append_left (by omega), List.getElem_append_left (by omega)]
  · have := List.getElem_mem h
    rcases List.mem_append.1 this with h | h
    · exact .inl (List.dropLast_subset _ h)
    · exact .inr h
theorem ok_ne {l : List UInt8} {ts : List Tok} {q : Int} (h : scanL l = (ts, q, 0)) : ∃ n, ts.length = n + 1 ∧ n ≤ l.length := by
  have h1 := (scanL_ok h).1
  have h2 := List.length_pos_iff.2 h1.ne
  have h3 := h1.head
  exact ⟨ts.length - 1, by omega, by omega⟩
end

/-! ### Lex7 -/
section

/-- The gap that a byte chooses. -/
def gapL (m : Nat) : List UInt8 := if m = 0 then [32] else if m = 1 then [10] else if m = 2 then [9, 32, 13] else [32, 32]
def gapsL (gl : List UInt8) : List (List UInt8) := gl.map fun g => gapL (g.toNat % 4)
theorem gapL_ok (m : Nat) : gapOk (gapL m) ∧ (gapL m).length ≤ 3 := by
  unfold gapL gapOk
  split
  · decide
  · split
    · decide
    · split <;> decide
theorem gapsL_ok (gl : List UInt8) : ∀ g ∈ gapsL gl, gapOk g ∧ g.length ≤ 3 := by
  intro g hg
  obtain ⟨x, _, rfl⟩ := List.mem_map.1 hg
  exact gapL_ok _
theorem gapsL_in (gl : List UInt8) (k : Nat) (h : k < gl.length) : (gapsL gl).getD k [32] = gapL (gl[k].toNat % 4) := by
  simp [gapsL, List.getD, h]
theorem gapsL_out (gl : List UInt8) (k : Nat) (h : ¬ k < gl.length) : (gapsL gl).getD k [32] = [32] := by
  have : gl.length ≤ k := by omega
  simp [gapsL, List.getD, this]

theorem joinT_nil (gs : List (List UInt8)) : joinT [] gs = [] := by cases gs <;> rfl
theorem joinT_snoc : ∀ (ts : List Tok) (gs : List (List UInt8)) (k : Nat) (h : k < ts.length), joinT (ts.take (k + 1)) gs = joinT (ts.take k) gs ++ (ts[k].t ++ gs.getD k [32])
  | [], gs, k, h => by simp at h
  | t :: ts, [], 0, _ => by simp [joinT]
  | t :: ts, g :: gs, 0, _ => by simp [joinT, joinT_nil]
  | t :: ts, [], k + 1, h => by
    have := joinT_snoc ts [] k (by simpa using h)
    rw [List.take_succ_cons, List.take_succ_cons, joinT, joinT, this]
    simp
  | t :: ts, g :: gs, k + 1, h => by
    have := joinT_snoc ts gs k (by simpa using h)
    rw [List.take_succ_cons, List.take_succ_cons, joinT, joinT, this]
    simp [List.append_assoc]

theorem Sc.sum {l : List UInt8} {a : Int} {ts : List Tok} (h : Sc l a ts) : (ts.map fun t => t.t.length).sum ≤ l.length := by
  induction h with
  | nil a => simp
  | white h hs ih => simp only [List.length_cons]; omega
  | @tok r a t ts hr hw h hs ih =>
    obtain ⟨hp, _⟩ := nextL_ok hr h
    have hle := hp.length_le
    rw [List.length_drop] at ih
    simp only [List.map_cons, List.sum_cons]; omega
theorem joinT_len : ∀ (ts : List Tok) (gs : List (List UInt8)), (∀ g ∈ gs, g.length ≤ 3) → (joinT ts gs).length ≤ (ts.map fun t => t.t.length).sum + 3 * ts.length
  | [], gs, _ => by rw [joinT_nil]; simp
  | t :: ts, [], h => by
    have := joinT_len ts [] h
    simp only [joinT, List.length_append, List.length_cons, List.map_cons, List.sum_cons]; omega
  | t :: ts, g :: gs, h => by
    have := joinT_len ts gs fun x hx => h x (by simp [hx])
    have := h g (by simp)
    simp only [joinT, List.length_append, List.length_cons, List.map_cons, List.sum_cons]; omega
theorem tok_le {l : List UInt8} {a : Int} {ts : List Tok} (h : Sc l a ts) {k : Nat} (hk : k < ts.length) : ts[k].t.length ≤ l.length := by
  have h1 := h.sum
  have h2 : ∀ (ts : List Tok) (k : Nat) (hk : k < ts.length), ts[k].t.length ≤ (ts.map fun t => t.t.length).sum := by
    intro ts
    induction ts with
    | nil => intro k hk; simp at hk
    | cons t ts ih =>
      intro k hk
      match k with
      | 0 => simp
      | k + 1 =>
        have := ih k (by simpa using hk)
        simp only [List.getElem_cons_succ, List.map_cons, List.sum_cons]; omega
  have := h2 ts k hk
  omega

/-- The tokens' texts with gaps, scanned again. -/
theorem scanL_back {l : List UInt8} {ts : List Tok} {q : Int} (h : scanL l = (ts, q, 0)) (hl : l.length ≤ 1000) (gl : List UInt8) :
    ∃ js, scanL (joinT ts (gapsL gl)) = (js, 0, 0) ∧ js.length = ts.length ∧ ∀ k (h : k < ts.length) (h' : k < js.length), ∃ (x : Tok) (a : Int), ts[k] = x ∧ js[k] = ⟨x.k, x.t, x.v, a⟩ := by
  have hs := (scanL_ok h).1
  obtain ⟨us, h1, h2⟩ := hs.back (gapsL gl) 0 fun g hg => (gapsL_ok gl g hg).1
  have hlen : us.length = ts.length := by
    have := congrArg List.length h2
    simpa using this
  have hj := joinT_len ts (gapsL gl) fun g hg => (gapsL_ok gl g hg).2
  have hsum := hs.sum
  have hhd := hs.head
  refine ⟨us, scanL_sc (by omega) h1, hlen, fun k hk hk' => ⟨_, us[k].a, rfl, ?_⟩⟩
  have e : (us.map Tok.bare)[k]? = (ts.map Tok.bare)[k]? := by rw [h2]
  rw [List.getElem?_map, List.getElem?_map, List.getElem?_eq_getElem hk, List.getElem?_eq_getElem hk'] at e
  simp only [Option.map_some, Option.some.injEq, Tok.bare, Prod.mk.injEq] at e
  obtain ⟨e1, e2, e3⟩ := e
  rw [← e1, ← e2, ← e3]
end
end Go.Proofs.YtnbacdmlaedppaaGreatDoor
