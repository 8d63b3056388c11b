/-
  PARTS of a claim, merged by segs.py: CwShP, CwSam.
-/
import Derived.Test.YtggfcdhkgldbfaaDoorS32
import Derived.Test.YtggfcdhkgldbfaaDoorS26
import Derived.Laws.StructEq
namespace Go.Proofs.YtggfcdhkgldbfaaDoor
set_option linter.unusedSimpArgs false
set_option linter.unusedVariables false

/-! ### CwShP -/
section
set_option linter.unusedSimpArgs false
open Go Go.Conc Go.RowKit Go.ConcR.Gen Cw
open Go.ConcN (sumTo upd upd_same upd_ne)

/-- The state of the simulation. -/
structure Sim where
  v : Nat
  left : List Nat
  read : List Nat
  pend : List Bool
  E : List (Int × ByteArray)
/-- The pending increment is completed. -/
def Sim.comp (s : Sim) (t : Nat) : Sim := if s.pend.getD t false then { s with v := s.read.getD t 0 + 1, pend := s.pend.set t false } else s
/-- Another one is begun. -/
noncomputable def Sim.beg (s : Sim) (t : Nat) : Sim := { s with left := s.left.set t (s.left.getD t 0 - 1), read := s.read.set t s.v, pend := s.pend.set t true, E := s.E ++ [((t : Int), itoaB s.v)] }
noncomputable def Sim.step (s : Sim) (t : Nat) : Sim := if (s.comp t).left.getD t 0 = 0 then s.comp t else (s.comp t).beg t
def Sim.res (s : Sim) (t : Nat) : Bool := !decide (s.left.getD t 0 = 0)
theorem getD_set_self {α : Type _} {l : List α} {k : Nat} {x d : α} (h : k < l.length) : (l.set k x).getD k d = x := by simp [List.getD_eq_getElem?_getD, h]
theorem getD_set_ne {α : Type _} {l : List α} {k j : Nat} {x d : α} (h : k ≠ j) : (l.set k x).getD j d = l.getD j d := by simp [List.getD_eq_getElem?_getD, List.getElem?_set_ne h]
theorem comp_left (s : Sim) (t : Nat) : (s.comp t).left = s.left := by unfold Sim.comp; split <;> rfl
theorem comp_read (s : Sim) (t : Nat) : (s.comp t).read = s.read := by unfold Sim.comp; split <;> rfl
theorem comp_E (s : Sim) (t : Nat) : (s.comp t).E = s.E := by unfold Sim.comp; split <;> rfl
theorem comp_len (s : Sim) (t : Nat) : (s.comp t).pend.length = s.pend.length := by unfold Sim.comp; split <;> simp
theorem comp_self {s : Sim} {t : Nat} (h : t < s.pend.length) : (s.comp t).pend.getD t false = false := by
  unfold Sim.comp
  split
  · exact getD_set_self h
  · rename_i hb; simpa using hb
theorem comp_ne {s : Sim} {t j : Nat} (h : t ≠ j) : (s.comp t).pend.getD j false = s.pend.getD j false := by
  unfold Sim.comp
  split
  · exact getD_set_ne h
  · rfl
/-- The bounds that hold of every state that is reached. -/
structure SimB (s : Sim) : Prop where
  ll : s.left.length = 3
  lr : s.read.length = 3
  lp : s.pend.length = 3
  v : s.v ≤ s.E.length
  p : ∀ k, s.pend.getD k false = true → s.read.getD k 0 + 1 ≤ s.E.length
  r : ∀ k, s.read.getD k 0 ≤ s.E.length
  e : s.E.length + (s.left.getD 0 0 + s.left.getD 1 0 + s.left.getD 2 0) ≤ 21
theorem SimB.comp {s : Sim} (h : SimB s) (t : Nat) : SimB (s.comp t) := by
  refine ⟨by rw [comp_left]; exact h.ll, by rw [comp_read]; exact h.lr, by rw [comp_len]; exact h.lp, ?_, fun k hk => ?_, fun k => by rw [comp_read, comp_E]; exact h.r k, by rw [comp_left, comp_E]; exact h.e⟩
  · rw [comp_E]
    unfold Sim.comp
    split
    · rename_i hp; exact h.p t hp
    · exact h.v
  · rw [comp_read, comp_E]
    by_cases e : t = k
    · subst e
      by_cases ht : t < s.pend.length
      · rw [comp_self ht] at hk; cases hk
      · refine h.p t ?_
        unfold Sim.comp at hk
        split at hk
        · rename_i hp; exact hp
        · exact hk
    · rw [comp_ne e] at hk
      exact h.p k hk
theorem SimB.step {s : Sim} (h : SimB s) {t : Nat} (ht : t < 3) : SimB (s.step t) := by
  unfold Sim.step
  have hc := h.comp t
  generalize s.comp t = c at hc ⊢
  split
  · exact hc
  · rename_i hl
    refine ⟨by simp [Sim.beg, hc.ll], by simp [Sim.beg, hc.lr], by simp [Sim.beg, hc.lp], ?_, fun k hk => ?_, fun k => ?_, ?_⟩
    · have := hc.v
      simp [Sim.beg]; omega
    · simp only [Sim.beg, List.length_append, List.length_cons, List.length_nil] at hk ⊢
      by_cases e : t = k
      · subst e
        rw [getD_set_self (by rw [hc.lr]; exact ht)]
        have := hc.v; omega
      · rw [getD_set_ne e]
        rw [getD_set_ne e] at hk
        have := hc.p k hk; omega
    · simp only [Sim.beg, List.length_append, List.length_cons, List.length_nil]
      by_cases e : t = k
      · subst e
        rw [getD_set_self (by rw [hc.lr]; exact ht)]
        have := hc.v; omega
      · rw [getD_set_ne e]
        have := hc.r k; omega
    · have he := hc.e
      simp only [Sim.beg, List.length_append, List.length_cons, List.length_nil]
      have h3 := hc.ll
      rcases (by omega : t = 0 ∨ t = 1 ∨ t = 2) with rfl | rfl | rfl
      · rw [getD_set_self (by omega), getD_set_ne (by decide), getD_set_ne (by decide)]; omega
      · rw [getD_set_self (by omega), getD_set_ne (by decide), getD_set_ne (by decide)]; omega
      · rw [getD_set_self (by omega), getD_set_ne (by decide), getD_set_ne (by decide)]; omega
theorem mem_getD {l : List Nat} {x : Nat} (h : x ∈ l) : ∃ k, k < l.length ∧ l.getD k 0 = x := by
  obtain ⟨k, hk, rfl⟩ := List.mem_iff_getElem.1 h
  exact ⟨k, hk, by simp [List.getD_eq_getElem?_getD, hk]⟩
theorem SimB.left98 {s : Sim} (h : SimB s) : ∀ x ∈ s.left, x < 98 := fun x hx => by
  obtain ⟨k, hk, rfl⟩ := mem_getD hx
  have := h.e
  rw [h.ll] at hk
  rcases (by omega : k = 0 ∨ k = 1 ∨ k = 2) with rfl | rfl | rfl <;> omega
theorem SimB.read98 {s : Sim} (h : SimB s) : ∀ x ∈ s.read, x < 98 := fun x hx => by
  obtain ⟨k, _, rfl⟩ := mem_getD hx
  have := h.e
  have := h.r k
  omega
theorem SimB.v98 {s : Sim} (h : SimB s) : s.v < 98 := by have := h.e; have := h.v; omega
theorem SimB.e98 {s : Sim} (h : SimB s) : s.E.length < 1000 := by have := h.e; omega
theorem SimB.itr {t : Nat} (ht : t < 3) : ∀ (j : Nat) {s : Sim}, SimB s → SimB (itr (fun s => s.step t) j s)
  | 0, _, h => h
  | j + 1, _, h => SimB.itr ht j (h.step ht)

section
variable {W : World} {sb : Nat} {tm : Nat → Nat}
/-- What holds of task k. -/
def ShRelK (en : Bool) (l : LamD) (tmk left read : Nat) (pend : Bool) : Prop :=
  (en = false → left = tmk - posD l ∧ pend = l.2.isSome ∧ ∀ n, l.2 = some n → read = n) ∧ (en = true → left = 0 ∧ pend = false)
/-- The simulation goes with the tasks. -/
structure ShRel (tm : Nat → Nat) (en : Nat → Bool) (loc : Nat → LamD) (m : Nat) (E : List (Int × ByteArray)) (s : Sim) : Prop where
  v : s.v = m
  e : s.E = E
  ll : s.left.length = 3
  lr : s.read.length = 3
  lp : s.pend.length = 3
  k : ∀ k, k < 3 → ShRelK (en k) (loc k) (tm k) (s.left.getD k 0) (s.read.getD k 0) (s.pend.getD k false)
theorem shr_comp {en : Nat → Bool} {loc : Nat → LamD} {m : Nat} {E : List (Int × ByteArray)} {s : Sim} (h : ShRel tm en loc m E s) {k : Nat} (hk : k < 3) (he : en k = false) : (s.comp k).v = valD (loc k) m := by
  obtain ⟨h1, h2, h3⟩ := (h.k k hk).1 he
  unfold Sim.comp
  rw [h2]
  cases hl : (loc k).2 with
  | none =>
    simp only [Option.isSome_none, Bool.false_eq_true, if_false]
    unfold valD
    rw [hl]
    exact h.v
  | some n =>
    simp only [Option.isSome_some, if_true]
    unfold valD
    rw [hl, h3 n hl]
theorem shr_yield {en : Nat → Bool} {loc : Nat → LamD} {m : Nat} {E : List (Int × ByteArray)} {s : Sim} (h : ShRel tm en loc m E s) {k : Nat} (hk : k < 3) (he : en k = false) (hp : posD (loc k) < tm k) :
    ShRel tm en (upd loc k (posD (loc k), some (valD (loc k) m))) (valD (loc k) m) (E ++ [((k : Int), itoaB (valD (loc k) m))]) ((s.comp k).beg k) := by
  obtain ⟨h1, h2, h3⟩ := (h.k k hk).1 he
  have hv := shr_comp h hk he
  have hll := h.ll
  have hlr := h.lr
  have hlp := h.lp
  refine ⟨hv, ?_, by simp [Sim.beg, comp_left, hll], by simp [Sim.beg, comp_read, hlr], by simp [Sim.beg, comp_len, hlp], fun j hj => ?_⟩
  · show (s.comp k).E ++ _ = _
    rw [comp_E, hv, h.e]
  · by_cases e : k = j
    · subst e
      rw [upd_same]
      refine ⟨fun _ => ⟨?_, ?_, fun n hn => ?_⟩, fun h' => by rw [he] at h'; cases h'⟩
      · show ((s.comp k).left.set k _).getD k 0 = _
        rw [getD_set_self (by rw [comp_left, hll]; exact hk), comp_left, h1]
        show tm k - posD (loc k) - 1 = tm k - (posD (loc k) + 1)
        omega
      · show ((s.comp k).pend.set k true).getD k false = _
        rw [getD_set_self (by rw [comp_len, hlp]; exact hk)]
        rfl
      · show ((s.comp k).read.set k (s.comp k).v).getD k 0 = _
        rw [getD_set_self (by rw [comp_read, hlr]; exact hk), hv]
        simpa using hn
    · rw [upd_ne _ _ (fun x => e x.symm)]
      have e1 : ((s.comp k).beg k).left.getD j 0 = s.left.getD j 0 := by
        show ((s.comp k).left.set k _).getD j 0 = _
        rw [getD_set_ne e, comp_left]
      have e2 : ((s.comp k).beg k).read.getD j 0 = s.read.getD j 0 := by
        show ((s.comp k).read.set k _).getD j 0 = _
        rw [getD_set_ne e, comp_read]
      have e3 : ((s.comp k).beg k).pend.getD j false = s.pend.getD j false := by
        show ((s.comp k).pend.set k _).getD j false = _
        rw [getD_set_ne e, comp_ne e]
      rw [e1, e2, e3]
      exact h.k j hj
theorem shr_end {en : Nat → Bool} {loc : Nat → LamD} {m : Nat} {E : List (Int × ByteArray)} {s : Sim} (h : ShRel tm en loc m E s) {k : Nat} (hk : k < 3) (he : en k = false) (hp : ¬ posD (loc k) < tm k) :
    ShRel tm (upd en k true) loc (valD (loc k) m) E (s.comp k) := by
  obtain ⟨h1, h2, h3⟩ := (h.k k hk).1 he
  have hv := shr_comp h hk he
  refine ⟨hv, (comp_E s k).trans h.e, (by rw [comp_left]; exact h.ll), (by rw [comp_read]; exact h.lr), (comp_len s k).trans h.lp, fun j hj => ?_⟩
  by_cases e : k = j
  · subst e
    rw [upd_same]
    refine ⟨fun h' => (by cases h'), fun _ => ⟨?_, comp_self (by rw [h.lp]; exact hk)⟩⟩
    rw [comp_left, h1]; omega
  · rw [upd_ne _ _ (fun x => e x.symm), comp_left, comp_read, comp_ne e]
    exact h.k j hj
abbrev ShRelS (a : Sst (addersT W sb tm 3)) (s : Sim) : Prop := ShRel tm a.en a.loc a.m a.E s
theorem shr_step {a : Sst (addersT W sb tm 3)} {s : Sim} (h : ShRelS a s) {k : Nat} (hk : k < 3) : ShRelS ((addersT W sb tm 3).step k a) (s.step k) ∧ ((s.comp k).res k = false → ((addersT W sb tm 3).step k a).en k = true) := by
  have hleft : (s.comp k).left.getD k 0 = s.left.getD k 0 := by rw [comp_left]
  unfold Tasks.step Sim.step
  cases he : a.en k with
  | true =>
    simp only [if_true]
    obtain ⟨h1, h2⟩ := (h.k k hk).2 he
    have hc : s.comp k = s := by unfold Sim.comp; rw [h2]; rfl
    rw [if_pos (by rw [hleft, h1]), hc]
    exact ⟨h, fun _ => he⟩
  | false =>
    simp only [Bool.false_eq_true, if_false]
    obtain ⟨h1, h2, h3⟩ := (h.k k hk).1 he
    have hn : (addersT W sb tm 3).next k (a.loc k) a.m = nextD (tm k) (a.loc k) a.m := rfl
    rw [hn]
    unfold nextD
    by_cases hp : posD (a.loc k) < tm k
    · rw [if_pos hp, if_neg (by rw [hleft, h1]; omega)]
      refine ⟨shr_yield h hk he hp, fun hr => ?_⟩
      unfold Sim.res at hr
      rw [hleft, h1] at hr
      simp at hr
      omega
    · rw [if_neg hp, if_pos (by rw [hleft, h1]; omega)]
      exact ⟨shr_end h hk he hp, fun _ => upd_same _ _ _⟩
theorem shr_itr {k : Nat} (hk : k < 3) : ∀ (j : Nat) {a : Sst (addersT W sb tm 3)} {s : Sim}, ShRelS a s → ShRelS (itr ((addersT W sb tm 3).step k) j a) (itr (fun s => s.step k) j s)
  | 0, _, _, h => h
  | j + 1, _, _, h => shr_itr hk j (shr_step h hk).1
theorem itr_last {α : Type _} (f : α → α) : ∀ (j : Nat) (x : α), itr f (j + 1) x = f (itr f j x)
  | 0, _ => rfl
  | j + 1, x => itr_last f j (f x)
theorem itr_plus {α : Type _} (f : α → α) : ∀ (i j : Nat) (x : α), itr f (i + j) x = itr f j (itr f i x)
  | 0, j, x => by rw [Nat.zero_add]; rfl
  | i + 1, j, x => by rw [show i + 1 + j = (i + j) + 1 by omega]; exact itr_plus f i j (f x)
theorem itr_same {t : Tasks} {k i j : Nat} {a : Sst t} (hi : (itr (t.step k) i a).en k = true) (hj : (itr (t.step k) j a).en k = true) : itr (t.step k) i a = itr (t.step k) j a := by
  rcases Nat.le_total i j with h | h
  · obtain ⟨d, rfl⟩ := Nat.exists_eq_add_of_le h
    rw [itr_plus, itr_id (step_id hi)]
  · obtain ⟨d, rfl⟩ := Nat.exists_eq_add_of_le h
    rw [itr_plus, itr_id (step_id hj)]
/-- What one inner loop leaves. -/
def Drained (t : Nat) (s s' : Sim) : Prop := ∃ j, ((itr (fun s => s.step t) j s).comp t).res t = false ∧ s' = itr (fun s => s.step t) (j + 1) s
theorem shr_drain {N₀ : Nat} {Sh0 : Loc → Prop} (O : TasksOk (addersT W sb tm 3) N₀ Sh0) {k : Nat} (hk : k < 3) {a : Sst (addersT W sb tm 3)} {s s' : Sim} (h : ShRelS a s) (hd : Drained k s s') : ShRelS ((addersT W sb tm 3).drain k a) s' := by
  obtain ⟨j, hr, rfl⟩ := hd
  have h1 := shr_step (shr_itr hk j h) hk
  have h2 := shr_itr hk (j + 1) h
  have e1 : (itr ((addersT W sb tm 3).step k) (j + 1) a).en k = true := by rw [itr_last]; exact h1.2 hr
  have e2 := itr_ended (c := ⟨[], 0, 0, 0, N₀, 0, 0, fun _ => False⟩) (Sh0 := Sh0) O k ((addersT W sb tm 3).rk k (a.loc k) + 1) a (.inl (by omega))
  unfold Tasks.drain
  rw [itr_same e2 e1]
  exact h2
theorem shr_picks : ∀ (ps : List Nat) {a : Sst (addersT W sb tm 3)} {s : Sim}, (∀ i ∈ ps, i < 3) → ShRelS a s → ShRelS (ps.foldl (fun s k => (addersT W sb tm 3).step k s) a) (ps.foldl (fun s k => s.step k) s)
  | [], _, _, _, h => h
  | p :: ps, _, _, hp, h => shr_picks ps (fun i hi => hp i (by simp [hi])) (shr_step h (hp p (by simp))).1
/-- .. to the end. -/
theorem shr_fin {N₀ : Nat} {Sh0 : Loc → Prop} (O : TasksOk (addersT W sb tm 3) N₀ Sh0) {ps : List Nat} (hp : ∀ i ∈ ps, i < 3) {s0 s1 s2 s3 : Sim} (h0 : ShRelS ((addersT W sb tm 3).s0 (0 : Nat)) s0) (h1 : Drained 0 (ps.foldl (fun s k => s.step k) s0) s1) (h2 : Drained 1 s1 s2) (h3 : Drained 2 s2 s3) :
    ShRelS ((addersT W sb tm 3).fin (0 : Nat) 3 ps) s3 := by
  have a0 := shr_picks ps hp h0
  have a1 := shr_drain O (by decide) a0 h1
  have a2 := shr_drain O (by decide) a1 h2
  have a3 := shr_drain O (by decide) a2 h3
  exact a3
end
end

/-! ### CwSam -/
section
set_option linter.unusedSimpArgs false
open Go Go.Conc Go.RowKit Go.ConcR.Gen Cw

/-- A row of events in memory. -/
def EvRow (w : World) (a : Option Addr) (E : List (Int × ByteArray)) : Prop := E = [] ∨ ∃ b o, a = some ⟨b, o, none⟩ ∧ ∀ (k : Nat) (x : Int × ByteArray), E[k]? = some x → w.cell? ⟨b, o + k * 2, none⟩ = some (.int .i64 x.1) ∧ w.cell? ⟨b, o + k * 2 + 1, none⟩ = some (.string x.2)
def evq (i : Int) (s : ByteArray) (i' : Int) (s' : ByteArray) : Bool := i == i' && s.toList == s'.toList
theorem evq_iff {i i' : Int} {s s' : ByteArray} : evq i s i' s' = true ↔ (i, s) = (i', s') := by
  obtain ⟨⟨s⟩⟩ := s
  obtain ⟨⟨s'⟩⟩ := s'
  have e1 : (⟨⟨s⟩⟩ : ByteArray).toList = s := ByteArray.toList_eq _
  have e2 : (⟨⟨s'⟩⟩ : ByteArray).toList = s' := ByteArray.toList_eq _
  simp [evq, e1, e2]
theorem guardEv : Tryd.prog.eqGuardType Tryd.prog.depth 40 = false := by kernel_rfl
theorem heldEv : Tryd.prog.stoodInHeld 40 = false := by kernel_rfl
theorem structEv : Tryd.prog.underlying 40 = some (.struct (Tryd.prog.fieldsOf 40)) := by kernel_rfl
theorem eq_ev (i : Int) (s : ByteArray) (i' : Int) (s' : ByteArray) (w : World) : (Op.equalIn 10000 40 (.agg #[.int .i64 i, .string s]) (.agg #[.int .i64 i', .string s'])).run Tryd.prog w = .ok (evq i s i' s') w := by
  rw [run_equalIn_agg w 9999 _ _ _ structEv heldEv]
  simp [go_sem, Tryd.underlying40, Tryd.underlying3, Tryd.underlying9]
  unfold evq
  by_cases h1 : i = i' <;> by_cases h3 : s.toList = s'.toList <;> simp [h1, h3]
theorem ee1 (n : Nat) (i i' : Int) (w : World) (es : Array Event) : (Op.equalIn (n+1) 3 (.int .i64 i) (.int .i64 i')).events Tryd.prog w es = es := by
  unfold Op.equalIn
  simp [go_sem, Tryd.underlying3]
theorem ee2 (n : Nat) (i i' : ByteArray) (w : World) (es : Array Event) : (Op.equalIn (n+1) 9 (.string i) (.string i')).events Tryd.prog w es = es := by
  unfold Op.equalIn
  simp [go_sem, Tryd.underlying9]
theorem ee3 (i : Int) (s : ByteArray) (i' : Int) (s' : ByteArray) (w : World) (es : Array Event) : (eqGuard .neq 40 (.tmp 19) (.tmp 23) (.agg #[.int .i64 i, .string s]) (.agg #[.int .i64 i', .string s'])).events Tryd.prog w es = es := by
  simp [eqGuard, go_sem, guardEv, run_program]
theorem ee4 (n : Nat) (i : Int) (s : ByteArray) (i' : Int) (s' : ByteArray) (w : World) (es : Array Event) : (Op.equalIn (n+1+1) 40 (.agg #[.int .i64 i, .string s]) (.agg #[.int .i64 i', .string s'])).events Tryd.prog w es = es := by
  rw [Op.equalIn]
  simp only [Sem.events_bind, run_underlying Tryd.underlying40, events_underlying, Result.evThen_ok, run_program, heldEv]
  simp [go_sem, Tryd.underlying40, heldEv, run_program, ee1, ee2]
theorem ev_neq (i : Int) (s : ByteArray) (i' : Int) (s' : ByteArray) (w : World) (es : Array Event) : (binOp .neq 40 (.agg #[.int .i64 i, .string s]) (.agg #[.int .i64 i', .string s'])).events Tryd.prog w es = es := by
  have h := ee4 9998 i s i' s' w es
  have h2 := eq_ev i s i' s' w
  simp only [binOp]
  simp [Op.equal, Op.maxDepth, go_sem, h, h2]
set_option maxRecDepth 100000 in
set_option maxHeartbeats 2000000 in
theorem c_same_eq {Sh : Loc → Prop} {W : World} {main : Bool} (hS : ShOk Sh W) {a1 a2 : Option Addr} {E1 E2 : List (Int × ByteArray)} (n c1 c2 : Nat) (h1 : EvRow W a1 E1) (h2 : EvRow W a2 E2) (hn1 : E1.length ≤ n ∧ n ≤ E1.length) (hn2 : E2.length ≤ n ∧ n ≤ E2.length) (hl1 : n ≤ 17179869184) :
    ∃ k, ∀ w, Ext Vn W w → CallsC Tryd.prog main (Ext Vn) (HDq (Cx0 Sh)) 9 #[.slice a1 n c1, .slice a2 n c2] k w (fun r w' => r = .bool (decide (E1 = E2)) ∧ Ext Vn W w') := by
  have rl : ∀ {w w' : World}, Ext Vn W w → Ext Vn w w' → Ext Vn W w' := fun h r => h.trans r
  by_cases he : n = 0
  · have hL0 : n ≤ 0 := by omega
    clear he h1 h2
    co_apply Exists.intro
    intro w hF
    co_apply callsC_of_wpC Tryd.func9 (by rfl) rfl
    simp only [Tryd.ntmps9, List.size_toArray, List.length_cons, List.length_nil, Nat.reduceAdd, Nat.reduceSub, Array.replicate_succ, Array.replicate_zero, List.push_toArray, List.append_toArray, List.nil_append, List.cons_append]
    co_apply wpC_seq (TT Sh)
    co_reg (TT Sh)
    co_op rl hF (co_quiet (TT Sh))
    co_apply opsC_nil (TT Sh)
    co_then
    co_apply wpC_seq (TT Sh)
    co_apply wpC_seq (TT Sh)
    co_reg (TT Sh)
    co_op rl hF (co_quiet (TT Sh))
    co_op rl hF (co_quiet (TT Sh))
    co_op rl hF (co_quiet (TT Sh))
    co_op rl hF (co_quiet (TT Sh))
    co_op rl hF (co_quiet (TT Sh))
    co_apply opsC_nil (TT Sh)
    co_then
    co_apply wpC_cond (TT Sh) (t := false)
    · simp [Act.eval]
    simp only [if_false, reduceIte, Bool.false_eq_true]
    co_apply wpC_skip (TT Sh)
    co_then
    co_apply wpC_seq (TT Sh)
    co_apply wpC_seq (TT Sh)
    co_reg (TT Sh)
    co_op rl hF (co_quiet (TT Sh))
    co_op rl hF (co_quiet (TT Sh))
    co_op rl hF (co_quiet (TT Sh))
    co_apply opsC_nil (TT Sh)
    co_then
    co_apply wpC_block (TT Sh)
    co_apply wpC_loop (TT Sh) (fun a' w' => ∃ (T : Array Value) (i : Nat), a' = ⟨T, []⟩ ∧ T.size = 26 ∧ T[0]? = some (.slice a1 n c1) ∧ T[1]? = some (.slice a2 n c2) ∧ T[4]? = some (.bool false) ∧ T[12]? = some (.int .i64 n) ∧ T[13]? = some (.int .i64 i) ∧ i ≤ n ∧ E1.take i = E2.take i ∧ Ext Vn W w') (fun a' _ => n - slotN a' 13) _ (n)
    · exact ⟨_, 0, rfl, rfl, rfl, rfl, rfl, rfl, rfl, by omega, rfl, hF⟩
    · simp [slotN]
    clear hF w
    rintro a' w ⟨T, i, rfl, hT, h0, h1, h4, h12, h13, hi, heq, hF⟩
    obtain ⟨v0, v1, v2, v3, v4, v5, v6, v7, v8, v9, v10, v11, v12, v13, v14, v15, v16, v17, v18, v19, v20, v21, v22, v23, v24, v25, rfl⟩ := arr26 T hT
    simp only [List.getElem?_toArray, List.getElem?_cons_zero, List.getElem?_cons_succ, Option.some.injEq] at h0 h1 h4 h12 h13
    subst h0
    subst h1
    subst h4
    subst h12
    subst h13
    co_apply wpC_seq (TT Sh)
    co_reg (TT Sh)
    co_op rl hF (co_quiet (TT Sh))
    co_apply opsC_nil (TT Sh)
    co_then
    co_apply wpC_seq (TT Sh) (n₂ := 0)
    co_split (TT Sh) (decide ((i : Int) < (n : Int)))
    · intro ht
      exact wpC_absurd (by have : i < n := (by simpa using ht); omega)
    · intro ht
      have hil : i = n := by have : ¬ i < n := (by simpa using ht); omega
      co_apply wpC_exit (TT Sh)
      co_then
      co_apply wpC_seq (TT Sh)
      co_reg (TT Sh)
      co_op rl hF (co_quiet (TT Sh))
      co_apply opsC_nil (TT Sh)
      co_then
      co_apply wpC_ret (TT Sh)
      try co_then
      refine ⟨rfl, _, resultsC_tmp (by rfl) _, ?_, hF⟩
      rw [List.take_of_length_le (by omega), List.take_of_length_le (by omega)] at heq
      simp [heq]
  · obtain ⟨b1, o1, rfl, hcs1⟩ := h1.resolve_left (fun e => he (by rw [e] at hn1; simp at hn1; omega))
    obtain ⟨b2, o2, rfl, hcs2⟩ := h2.resolve_left (fun e => he (by rw [e] at hn2; simp at hn2; omega))
    clear he
    co_apply Exists.intro
    intro w hF
    co_apply callsC_of_wpC Tryd.func9 (by rfl) rfl
    simp only [Tryd.ntmps9, List.size_toArray, List.length_cons, List.length_nil, Nat.reduceAdd, Nat.reduceSub, Array.replicate_succ, Array.replicate_zero, List.push_toArray, List.append_toArray, List.nil_append, List.cons_append]
    co_apply wpC_seq (TT Sh)
    co_reg (TT Sh)
    co_op rl hF (co_quiet (TT Sh))
    co_apply opsC_nil (TT Sh)
    co_then
    co_apply wpC_seq (TT Sh)
    co_apply wpC_seq (TT Sh)
    co_reg (TT Sh)
    co_op rl hF (co_quiet (TT Sh))
    co_op rl hF (co_quiet (TT Sh))
    co_op rl hF (co_quiet (TT Sh))
    co_op rl hF (co_quiet (TT Sh))
    co_op rl hF (co_quiet (TT Sh))
    co_apply opsC_nil (TT Sh)
    co_then
    co_apply wpC_cond (TT Sh) (t := false)
    · simp [Act.eval]
    simp only [if_false, reduceIte, Bool.false_eq_true]
    co_apply wpC_skip (TT Sh)
    co_then
    co_apply wpC_seq (TT Sh)
    co_apply wpC_seq (TT Sh)
    co_reg (TT Sh)
    co_op rl hF (co_quiet (TT Sh))
    co_op rl hF (co_quiet (TT Sh))
    co_op rl hF (co_quiet (TT Sh))
    co_apply opsC_nil (TT Sh)
    co_then
    co_apply wpC_block (TT Sh)
    co_apply wpC_loop (TT Sh) (fun a' w' => ∃ (T : Array Value) (i : Nat), a' = ⟨T, []⟩ ∧ T.size = 26 ∧ T[0]? = some (.slice (some ⟨b1, o1, none⟩) n c1) ∧ T[1]? = some (.slice (some ⟨b2, o2, none⟩) n c2) ∧ T[4]? = some (.bool false) ∧ T[12]? = some (.int .i64 n) ∧ T[13]? = some (.int .i64 i) ∧ i ≤ n ∧ E1.take i = E2.take i ∧ Ext Vn W w') (fun a' _ => n - slotN a' 13) _ (n)
    · exact ⟨_, 0, rfl, rfl, rfl, rfl, rfl, rfl, rfl, by omega, rfl, hF⟩
    · simp [slotN]
    clear hF w
    rintro a' w ⟨T, i, rfl, hT, h0, h1, h4, h12, h13, hi, heq, hF⟩
    obtain ⟨v0, v1, v2, v3, v4, v5, v6, v7, v8, v9, v10, v11, v12, v13, v14, v15, v16, v17, v18, v19, v20, v21, v22, v23, v24, v25, rfl⟩ := arr26 T hT
    simp only [List.getElem?_toArray, List.getElem?_cons_zero, List.getElem?_cons_succ, Option.some.injEq] at h0 h1 h4 h12 h13
    subst h0
    subst h1
    subst h4
    subst h12
    subst h13
    co_apply wpC_seq (TT Sh)
    co_reg (TT Sh)
    co_op rl hF (co_quiet (TT Sh))
    co_apply opsC_nil (TT Sh)
    co_then
    co_apply wpC_seq (TT Sh)
    co_split (TT Sh) (decide ((i : Int) < (n : Int)))
    · intro ht
      have hil : i < n := by simpa using ht
      co_apply wpC_skip (TT Sh)
      co_then
      co_apply wpC_seq (TT Sh)
      co_apply wpC_block (TT Sh)
      co_apply wpC_seq (TT Sh)
      obtain ⟨x, hxi⟩ : ∃ x, E1[i]? = some x := ⟨_, List.getElem?_eq_getElem (by omega)⟩
      obtain ⟨y, hyi⟩ : ∃ y, E2[i]? = some y := ⟨_, List.getElem?_eq_getElem (by omega)⟩
      co_reg (TT Sh)
      co_op rl hF (co_quiet (TT Sh))
      co_op rl hF (co_quiet (TT Sh))
      co_apply opsC_nil (TT Sh)
      co_then
      co_apply wpC_seq (TT Sh)
      co_held (TT Sh) (lets0 Sh) draw_ext (fun w => Ext Vn W w) rl hF
      co_take 0 (TT Sh) rl hF hw (skip) (co_quiet (TT Sh))
      co_take 1 (TT Sh) rl hF hw (skip) (co_quiet (TT Sh))
      co_take 2 (TT Sh) rl hF hw (skip) (co_still (TT Sh))
      co_take 3 (TT Sh) rl hF hw (have hc0 := cell_ext hw (hcs1 i x hxi).1; have hc1 := cell_ext hw (hcs1 i x hxi).2) (refine hdq_read (fun e he => ?_); have hm := mem_listed he; simp [go_sem, *] at hm; rcases hm with rfl | rfl; exact ⟨_, rfl, block_of_cell hc0, sh_no hS (hcs1 i x hxi).1 (by rfl)⟩; exact ⟨_, rfl, block_of_cell hc1, sh_no hS (hcs1 i x hxi).2 (by rfl)⟩)
      co_take 4 (TT Sh) rl hF hw (skip) (co_quiet (TT Sh))
      co_take 5 (TT Sh) rl hF hw (skip) (co_quiet (TT Sh))
      co_take 6 (TT Sh) rl hF hw (skip) (co_still (TT Sh))
      co_take 7 (TT Sh) rl hF hw (have hc0 := cell_ext hw (hcs2 i y hyi).1; have hc1 := cell_ext hw (hcs2 i y hyi).2) (refine hdq_read (fun e he => ?_); have hm := mem_listed he; simp [go_sem, *] at hm; rcases hm with rfl | rfl; exact ⟨_, rfl, block_of_cell hc0, sh_no hS (hcs2 i y hyi).1 (by rfl)⟩; exact ⟨_, rfl, block_of_cell hc1, sh_no hS (hcs2 i y hyi).2 (by rfl)⟩)
      co_take 8 (TT Sh) rl hF hw (have hq := eq_ev x.1 x.2 y.1 y.2; have hg := guardEv; have hqe := ev_neq x.1 x.2 y.1 y.2; have hge := ee3 x.1 x.2 y.1 y.2) (rw [listed_nil (by simp [go_sem, *])]; exact Terms.idle (TT Sh) _)
      co_done
      co_split (TT Sh) (!(evq x.1 x.2 y.1 y.2))
      · intro ht
        co_apply wpC_seq (TT Sh)
        co_reg (TT Sh)
        co_op rl hF (co_quiet (TT Sh))
        co_apply opsC_nil (TT Sh)
        co_then
        co_apply wpC_ret (TT Sh)
        try co_then
        refine ⟨rfl, _, resultsC_tmp (by rfl) _, ?_, hF⟩
        have hne : decide (E1 = E2) = false := decide_eq_false fun e => by
          rw [e, hyi] at hxi
          have := evq_iff.2 (show (x.1, x.2) = (y.1, y.2) by rw [Option.some.inj hxi])
          rw [this] at ht
          cases ht
        rw [hne]
        try rfl
      · intro ht
        co_apply wpC_skip (TT Sh)
        co_then
        co_reg (TT Sh)
        co_op rl hF (co_quiet (TT Sh))
        co_op rl hF (co_quiet (TT Sh))
        co_apply opsC_nil (TT Sh)
        co_then
        have hwr : IntKind.i64.wrap ((i : Int) + 1) = ((i + 1 : Nat) : Int) := by rw [IntKind.wrap_i64]; omega
        have hxy : x = y := by
          have : evq x.1 x.2 y.1 y.2 = true := by simpa using ht
          exact evq_iff.1 this
        refine ⟨⟨_, i + 1, rfl, rfl, rfl, rfl, rfl, rfl, by simp [hwr], by omega, ?_, hF⟩, ?_⟩
        · rw [List.take_add_one, List.take_add_one, hxi, hyi, heq, hxy]
        · simp [slotN, hwr]; omega
    · intro ht
      have hil : i = n := by have : ¬ i < n := (by simpa using ht); omega
      co_apply wpC_exit (TT Sh)
      co_then
      co_apply wpC_seq (TT Sh)
      co_reg (TT Sh)
      co_op rl hF (co_quiet (TT Sh))
      co_apply opsC_nil (TT Sh)
      co_then
      co_apply wpC_ret (TT Sh)
      try co_then
      refine ⟨rfl, _, resultsC_tmp (by rfl) _, ?_, hF⟩
      rw [List.take_of_length_le (by omega), List.take_of_length_le (by omega)] at heq
      simp [heq]
set_option maxRecDepth 100000 in
set_option maxHeartbeats 2000000 in
theorem c_same_ne {Sh : Loc → Prop} {W : World} {main : Bool} (a1 a2 : Option Addr) {E1 E2 : List (Int × ByteArray)} (n1 n2 c1 c2 : Nat) (hne : ¬ n1 = n2) (hE : decide (E1 = E2) = false) :
    ∃ k, ∀ w, Ext Vn W w → CallsC Tryd.prog main (Ext Vn) (HDq (Cx0 Sh)) 9 #[.slice a1 n1 c1, .slice a2 n2 c2] k w (fun r w' => r = .bool (decide (E1 = E2)) ∧ Ext Vn W w') := by
  have rl : ∀ {w w' : World}, Ext Vn W w → Ext Vn w w' → Ext Vn W w' := fun h r => h.trans r
  co_apply Exists.intro
  intro w hF
  co_apply callsC_of_wpC Tryd.func9 (by rfl) rfl
  simp only [Tryd.ntmps9, List.size_toArray, List.length_cons, List.length_nil, Nat.reduceAdd, Nat.reduceSub, Array.replicate_succ, Array.replicate_zero, List.push_toArray, List.append_toArray, List.nil_append, List.cons_append]
  co_apply wpC_seq (TT Sh)
  co_reg (TT Sh)
  co_op rl hF (co_quiet (TT Sh))
  co_apply opsC_nil (TT Sh)
  co_then
  co_apply wpC_seq (TT Sh) (n₂ := 0)
  co_apply wpC_seq (TT Sh)
  co_reg (TT Sh)
  co_op rl hF (co_quiet (TT Sh))
  co_op rl hF (co_quiet (TT Sh))
  co_op rl hF (co_quiet (TT Sh))
  co_op rl hF (co_quiet (TT Sh))
  co_op rl hF (co_quiet (TT Sh))
  co_apply opsC_nil (TT Sh)
  co_then
  co_apply wpC_cond (TT Sh) (t := true)
  · simp [Act.eval]; omega
  simp only [if_true, reduceIte]
  co_apply wpC_seq (TT Sh)
  co_reg (TT Sh)
  co_op rl hF (co_quiet (TT Sh))
  co_apply opsC_nil (TT Sh)
  co_then
  co_apply wpC_ret (TT Sh)
  try co_then
  refine ⟨rfl, _, resultsC_tmp (by rfl) _, ?_, hF⟩
  rw [hE]
  try rfl
theorem c_same {Sh : Loc → Prop} {W : World} {main : Bool} (hS : ShOk Sh W) {a1 a2 : Option Addr} {E1 E2 : List (Int × ByteArray)} (c1 c2 : Nat) (h1 : EvRow W a1 E1) (h2 : EvRow W a2 E2) (hl1 : E1.length ≤ 17179869184) :
    ∃ k, ∀ w, Ext Vn W w → CallsC Tryd.prog main (Ext Vn) (HDq (Cx0 Sh)) 9 #[.slice a1 E1.length c1, .slice a2 E2.length c2] k w (fun r w' => r = .bool (decide (E1 = E2)) ∧ Ext Vn W w') := by
  by_cases h : E1.length = E2.length
  · rw [h]
    exact c_same_eq hS _ c1 c2 h1 h2 (by omega) (by omega) (by omega)
  · exact c_same_ne a1 a2 _ _ c1 c2 h (decide_eq_false fun e => h (by rw [e]))
end
end Go.Proofs.YtggfcdhkgldbfaaDoor
