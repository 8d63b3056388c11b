/-
  PARTS of a claim, merged by segs.py: Map, Kit2, Ast8.
-/
import Derived.Test.YtjhnopnppimnhaaGreatDoorZ04
import Derived.Test.YtjhnopnppimnhaaGreatDoorZ07
import Derived.Test.YtjhnopnppimnhaaGreatDoorZ09
import Derived.Test.YtjhnopnppimnhaaGreatDoorZ08
import Derived.Maps.OwnSet
import Derived.Maps.OwnOps
import Derived.OneCell
import Derived.OwnWalk
import Derived.KernelRfl
namespace Go.Proofs.YtjhnopnppimnhaaGreatDoor

/-! ### Map -/
section
open Go.RowKit

/-- How the elements of a map lie: R a value, L its datum. -/
structure Elem (α : Type) where
  R : α → Value
  L : α → Lit
  zero : α
/-- .. of the program's type e. -/
structure Elem.Ok {α : Type} (E : Elem α) (P : Program) (e : TypeId) : Prop where
  zrun : ∀ w, (zeroValue e).run P w = .ok (E.R E.zero) w
  z : plainElem (H := Unit) P e (E.R E.zero) = some (.lit (E.L E.zero), [])
  inv : ∀ (v : Value) (x : α) (ps : List MemPlace), plainElem (H := Unit) P e v = some (.lit (E.L x), ps) → v = E.R x

section
variable {P : Program} {e k t : TypeId} {α : Type} {E : Elem α} {w w' : World} {b n : Nat} {F : Str → Option α}

/-- Block b is a map of at most n entries that holds F's. -/
def MapAt (P : Program) (e k : TypeId) (E : Elem α) (w : World) (b n : Nat) (F : Str → Option α) : Prop :=
  ∃ D : DataW Unit, w.ownsMap P k (plainElem P e) b n D ∧ Maps.IsMap D ∧ ∀ l : Str, Maps.has D (.string l) = (F l).isSome ∧ D.atKey (.string l) (.lit (E.L E.zero)) = .lit (E.L ((F l).getD E.zero))

theorem MapAt.made (w : World) : MapAt P e k E (w.alloc (.map #[] 0)) w.heap.size 0 (fun _ => none) :=
  ⟨.map [], World.ownsMap_made w _ _ _, Maps.isMap_empty, fun _ => ⟨rfl, rfl⟩⟩
theorem MapAt.lt (h : MapAt P e k E w b n F) : b < w.heap.size := let ⟨_, h1, _⟩ := h; h1.lt
theorem MapAt.same (h : MapAt P e k E w b n F) (hb : w'.heap[b]? = w.heap[b]?) : MapAt P e k E w' b n F := by
  obtain ⟨D, ⟨es, clock, h1, h2⟩, h3⟩ := h
  exact ⟨D, ⟨es, clock, hb.trans h1, h2⟩, h3⟩
theorem MapAt.kept {row : Option Nat} (h : MapAt P e k E w b n F) (hg : w.grownBy w' row) (hne : some b ≠ row) : MapAt P e k E w' b n F :=
  h.same (hg.block b h.lt hne)
theorem MapAt.below (h : MapAt P e k E w b n F) (hb : Below w.heap.size w w') : MapAt P e k E w' b n F := h.same (hb.block b h.lt)
theorem MapAt.alloc (h : MapAt P e k E w b n F) (o : Obj) : MapAt P e k E (w.alloc o) b n F := h.kept (World.grownBy_alloc w o none) (by simp)
theorem MapAt.mono (h : MapAt P e k E w b n F) {m : Nat} (hm : n ≤ m) : MapAt P e k E w b m F := let ⟨D, h1, h2⟩ := h; ⟨D, h1.mono hm, h2⟩

def updF (F : Str → Option α) (x : Str) (y : α) : Str → Option α := fun l => if l = x then some y else F l

theorem MapAt.look (h : MapAt P e k E w b n F) (hE : E.Ok P e) (hk : P.underlying k = some .string) (ht : P.underlying t = some (.map k e)) (s : ByteArray) (hs : s.size ≤ maxLen) :
    (Instr.lookup t (.map (some b)) (.string s) false).run P w = .ok (E.R ((F s.data.toList).getD E.zero)) w := by
  obtain ⟨D, h1, _, h3⟩ := h
  obtain ⟨v, ps, hrun, hv⟩ := h1.lookup (Maps.string_keyed hk) ht (hE.zrun w) hE.z (WideMaps.keyOf_string_mk hk hs)
  rw [(h3 s.data.toList).2] at hv
  rw [hrun, hE.inv v _ ps hv]
theorem MapAt.lookOk (h : MapAt P e k E w b n F) (hE : E.Ok P e) (hk : P.underlying k = some .string) (ht : P.underlying t = some (.map k e)) (s : ByteArray) (hs : s.size ≤ maxLen) :
    (Instr.lookup t (.map (some b)) (.string s) true).run P w = .ok (.tuple #[E.R ((F s.data.toList).getD E.zero), .bool (F s.data.toList).isSome]) w := by
  obtain ⟨D, h1, _, h3⟩ := h
  obtain ⟨v, ps, hrun, hv⟩ := h1.look_ok (Maps.string_keyed hk) ht (hE.zrun w) hE.z (WideMaps.keyOf_string_mk hk hs)
  rw [(h3 s.data.toList).2] at hv
  rw [hrun, hE.inv v _ ps hv, (h3 s.data.toList).1]
theorem MapAt.put (h : MapAt P e k E w b n F) (hk : P.underlying k = some .string) (ht : P.underlying t = some (.map k e)) (hn : n < maxLen) (s : ByteArray) (hs : s.size ≤ maxLen) (y : α) (hy : plainElem (H := Unit) P e (E.R y) = some (.lit (E.L y), [])) :
    ∃ w', (Instr.mapUpdate t (.map (some b)) (.string s) (E.R y)).run P w = .ok () w' ∧ MapAt P e k E w' b (n + 1) (updF F s.data.toList y) ∧ w.grownBy w' (some b) := by
  obtain ⟨D, h1, h2, h3⟩ := h
  obtain ⟨w', hrun, h4, hg⟩ := h1.update (Maps.string_keyed hk) ht hn (WideMaps.keyOf_string_mk hk hs) hy
  refine ⟨w', hrun, ⟨_, h4, h2.put _ _, fun l => ?_⟩, hg⟩
  have kl : WideAt.IsKeyLit (.string s.data.toList) := by simp [WideAt.IsKeyLit]
  unfold updF
  by_cases hl : l = s.data.toList
  · subst hl
    rw [if_pos rfl]
    exact ⟨Maps.has_put_same h2 kl _, Maps.atKey_put_same h2 kl _ _⟩
  · rw [if_neg hl]
    have hne : (Lit.string l) ≠ .string s.data.toList := fun e => hl (by injection e)
    exact ⟨(Maps.has_put_other hne _).trans (h3 l).1, (Maps.atKey_put_other hne _ _).trans (h3 l).2⟩

/-- 'm[k]' at the operation. -/
theorem wpList_look {ops : Array Oper} {rest : List Oper} {o : Oper} {a : Act} {Q : Exit → Act → World → Prop}
    (hg : o.guard = none) (m x : Operand) (hop : o.op = Op.lookup t m x false) (h : MapAt P e k E w b n F) (hE : E.Ok P e) (hk : P.underlying k = some .string) (ht : P.underlying t = some (.map k e))
    (hm : a.eval m = .map (some b)) (s : ByteArray) (hx : a.eval x = .string s) (hs : s.size ≤ maxLen) (v : Value) (hv : E.R ((F s.data.toList).getD E.zero) = v)
    (hK : wpList P ops Q rest (a.put o.dst v) w) : wpList P ops Q (o :: rest) a w := by
  refine wpList_plain hg fun K' hK' => ?_
  have hrun := h.look hE hk ht s hs
  rw [hv] at hrun
  unfold Oper.wp
  simp [execOp, hop, hm, hx, hrun, Result.andThen]
  exact hK' _ _ hK
/-- 'v, ok := m[k]' at the operation. -/
theorem wpList_lookOk {ops : Array Oper} {rest : List Oper} {o : Oper} {a : Act} {Q : Exit → Act → World → Prop}
    (hg : o.guard = none) (m x : Operand) (hop : o.op = Op.lookup t m x true) (h : MapAt P e k E w b n F) (hE : E.Ok P e) (hk : P.underlying k = some .string) (ht : P.underlying t = some (.map k e))
    (hm : a.eval m = .map (some b)) (s : ByteArray) (hx : a.eval x = .string s) (hs : s.size ≤ maxLen) (v : Value) (hv : E.R ((F s.data.toList).getD E.zero) = v) (y : Bool) (hy : (F s.data.toList).isSome = y)
    (hK : wpList P ops Q rest (a.put o.dst (.tuple #[v, .bool y])) w) : wpList P ops Q (o :: rest) a w := by
  refine wpList_plain hg fun K' hK' => ?_
  have hrun := h.lookOk hE hk ht s hs
  rw [hv, hy] at hrun
  unfold Oper.wp
  simp [execOp, hop, hm, hx, hrun, Result.andThen]
  exact hK' _ _ hK
/-- 'm[k] = v' at the operation. -/
theorem wpList_put {ops : Array Oper} {rest : List Oper} {o : Oper} {a : Act} {Q : Exit → Act → World → Prop}
    (hg : o.guard = none) (m x v : Operand) (hop : o.op = Op.mapUpdate t m x v) (h : MapAt P e k E w b n F) (hk : P.underlying k = some .string) (ht : P.underlying t = some (.map k e)) (hn : n < maxLen)
    (hm : a.eval m = .map (some b)) (s : ByteArray) (hx : a.eval x = .string s) (hs : s.size ≤ maxLen) (y : α) (hv : a.eval v = E.R y) (hy : plainElem (H := Unit) P e (E.R y) = some (.lit (E.L y), []))
    (hK : ∀ w', MapAt P e k E w' b (n + 1) (updF F s.data.toList y) → w.grownBy w' (some b) → wpList P ops Q rest (a.put o.dst undef) w') : wpList P ops Q (o :: rest) a w := by
  refine wpList_plain hg fun K' hK' => ?_
  obtain ⟨w', hrun, r1, r2⟩ := h.put hk ht hn s hs y hy
  unfold Oper.wp
  simp [execOp, hop, hm, hx, hv, hrun, Result.andThen]
  exact hK' _ _ (hK w' r1 r2)
/-- A map literal's entry at the operation. -/
theorem wpList_insert {ops : Array Oper} {rest : List Oper} {o : Oper} {a : Act} {Q : Exit → Act → World → Prop}
    (hg : o.guard = none) (m x v : Operand) (hop : o.op = Op.insert t m x v) (h : MapAt P e k E w b n F) (hk : P.underlying k = some .string) (ht : P.underlying t = some (.map k e)) (hn : n < maxLen)
    (hm : a.eval m = .map (some b)) (s : ByteArray) (hx : a.eval x = .string s) (hs : s.size ≤ maxLen) (y : α) (hv : a.eval v = E.R y) (hy : plainElem (H := Unit) P e (E.R y) = some (.lit (E.L y), []))
    (hK : ∀ w', MapAt P e k E w' b (n + 1) (updF F s.data.toList y) → w.grownBy w' (some b) → wpList P ops Q rest (a.put o.dst undef) w') : wpList P ops Q (o :: rest) a w := by
  refine wpList_plain hg fun K' hK' => ?_
  obtain ⟨w', hrun, r1, r2⟩ := h.put hk ht hn s hs y hy
  unfold Oper.wp
  simp [execOp, hop, hm, hx, hv, hrun, Result.andThen]
  exact hK' _ _ (hK w' r1 r2)
end

def EB : Elem Bool := ⟨.bool, .bool, false⟩
def EI : Elem Int := ⟨.int .i64, .int .i64, 0⟩
def ES : Elem Str := ⟨fun l => .string ⟨l.toArray⟩, .string, []⟩
theorem EB.ok {P : Program} {e : TypeId} (he : P.underlying e = some .bool) (hz : ∀ w, (zeroValue e).run P w = .ok (.bool false) w) : EB.Ok P e where
  zrun := hz
  z := plainElem_bool he false
  inv := fun v x ps h => by
    unfold plainElem at h
    rw [he] at h
    cases v <;> simp [EB] at h
    rw [h.1]; rfl
theorem EI.ok {P : Program} {e : TypeId} (he : P.underlying e = some (.int .i64)) (hz : ∀ w, (zeroValue e).run P w = .ok (.int .i64 0) w) : EI.Ok P e where
  zrun := hz
  z := plainElem_int he (by decide)
  inv := fun v x ps h => by
    obtain ⟨a, rfl, hz, _⟩ := plainElem_int_inv he h
    simp only [EI, Prod.mk.injEq, DataW.lit.injEq, Lit.int.injEq, true_and] at hz
    rw [hz.1]; rfl
theorem ES.ok {P : Program} {e : TypeId} (he : P.underlying e = some .string) (hz : ∀ w, (zeroValue e).run P w = .ok (.string ⟨#[]⟩) w) : ES.Ok P e where
  zrun := hz
  z := plainElem_string he (by decide)
  inv := fun v x ps h => by
    unfold plainElem at h
    rw [he] at h
    cases v <;> simp [ES] at h
    obtain ⟨_, h, _⟩ := h
    simp only [ES]
    rw [← h]

/-- A set. -/
def setF (S : List Str) : Str → Option Bool := fun l => if l ∈ S then some true else none
theorem setF_get (S : List Str) (l : Str) : (setF S l).getD false = decide (l ∈ S) := by
  unfold setF; split <;> simp [*]
theorem setF_put (S : List Str) (x : Str) : updF (setF S) x true = setF (S ++ [x]) := by
  funext l
  unfold updF setF
  by_cases h : l = x
  · subst h; simp
  · simp [h]
theorem setF_nil : (fun _ => none) = setF [] := by funext l; simp [setF]
end

/-! ### Kit2 -/
section
open Go.RowKit

/-- 'append(out, x, ..)' where the new block's number stands as the walk has reckoned it. -/
theorem wpList_append_new2 {P : Program} {w0 : World} {news : List Value} {ops : Array Oper} {rest : List Oper} {o : Oper} {a : Act} {Q : Exit → Act → World → Prop} {t e : TypeId} {i : TypeInfo} {z : Value} {size bytes : Nat}
    (ht : P.underlying t = some (.slice e)) (hi : P.info? e = some i) (hz : i.zero = some z) (hsize : i.size = size) (hby : i.bytes = bytes) (hzs : z.cells.size = size) (hsz : 0 < size) (hb1 : 0 < bytes)
    (hgd : o.guard = none) {s x : Operand} (ho : o.op = .call { callee := .builtin .append, args := #[s, x], argTypes := #[t, t] })
    {base : Nat} {v : Value} {n : Nat} {xs : List Value} (hs : a.eval s = v) (hown : w0.ownsRow base e size v n xs) {g m c : Nat} (hx : a.eval x = .slice (some ⟨g, 0, none⟩) m c) (hg : g = w0.heap.size)
    (hl : news.length = m * size) (h1 : news.all (·.oneCell') = true) (hlim : (n + m) * bytes ≤ 140737488355328) (hbase : base ≤ w0.heap.size)
    (h : ∀ v' w', w'.ownsRow base e size v' (n + m) (xs ++ news) → w0.grownBy w' v.ownBlock → wpList P ops Q rest (a.put o.dst v') w') : wpList P ops Q (o :: rest) a (w0.alloc (.cells news.toArray e)) := by
  subst hg
  exact wpList_append_new ht hi hz hsize hby hzs hsz hb1 hgd ho hs hown hx hl h1 hlim hbase h

end

/-! ### Ast8 -/
section
open Go.RowKit

theorem EB_ok : EB.Ok Tryz.prog 4 := EB.ok Tryz.underlying4 Tryz.zeroValue4
theorem EB_true : plainElem (H := Unit) Tryz.prog 4 (EB.R true) = some (.lit (EB.L true), []) := plainElem_bool Tryz.underlying4 true
/-- A set of names in memory. -/
def SetAt (w : World) (b n : Nat) (S : List Str) : Prop := MapAt Tryz.prog 4 9 EB w b n (setF S)
theorem SetAt.made (w : World) : SetAt (w.alloc (.map #[] 0)) w.heap.size 0 [] := by
  have h := MapAt.made (P := Tryz.prog) (e := 4) (k := 9) (E := EB) w
  rw [setF_nil] at h
  exact h

/-- A rule within the limits. -/
structure Rul.few (r : Rul) : Prop where
  a : r.atoms.length ≤ 8
  c : r.conds.length ≤ 8
  t : ∀ a ∈ r.atoms, a.ts.length ≤ 6
theorem few_of_items {r : Rul} (h : itemsE r = 0) : r.few := by
  unfold itemsE at h
  by_cases h0 : r.atoms = []
  · rw [if_pos h0] at h; exact absurd h (by decide)
  · rw [if_neg h0] at h
    by_cases h8 : 8 < r.atoms.length ∨ 8 < r.conds.length
    · rw [if_pos h8] at h; exact absurd h (by decide)
    · rw [if_neg h8] at h
      refine ⟨by omega, by omega, fun a ha => ?_⟩
      by_cases h1 : firstE atomE r.atoms = 0
      · have h2 := firstE_zero h1 a ha
        unfold atomE at h2
        split at h2
        · exact absurd h2 (by decide)
        · split at h2
          · exact absurd h2 (by decide)
          · omega
      · rw [if_neg h1] at h
        exact absurd h h1

/-- The names bound in the first atoms, and in the first terms of one more. -/
def PosIn (ats : List Atm) (v : Str) : Prop := v ≠ [] ∧ ∃ a ∈ ats, a.neg = false ∧ ∃ t ∈ a.ts, t.v = v
def PosIn2 (ats : List Atm) (neg : Bool) (ts : List Trm) (v : Str) : Prop := PosIn ats v ∨ (v ≠ [] ∧ neg = false ∧ ∃ t ∈ ts, t.v = v)
theorem posIn2_nil (ats : List Atm) (neg : Bool) (v : Str) : PosIn2 ats neg [] v ↔ PosIn ats v := by
  unfold PosIn2; simp
theorem posIn_succ {ats : List Atm} {k : Nat} (h : k < ats.length) {a : Atm} (ha : ats[k] = a) (v : Str) : PosIn (ats.take (k + 1)) v ↔ PosIn2 (ats.take k) a.neg a.ts v := by
  unfold PosIn2 PosIn
  rw [List.take_succ_eq_append_getElem h, ha]
  constructor
  · rintro ⟨h1, b, hb, h2⟩
    rcases List.mem_append.1 hb with hb | hb
    · exact .inl ⟨h1, b, hb, h2⟩
    · rw [List.mem_singleton.1 hb] at h2
      exact .inr ⟨h1, h2⟩
  · rintro (⟨h1, b, hb, h2⟩ | ⟨h1, h2⟩)
    · exact ⟨h1, b, List.mem_append_left _ hb, h2⟩
    · exact ⟨h1, a, by simp, h2⟩
theorem posIn2_skip {ats : List Atm} {neg : Bool} {ts : List Trm} {j : Nat} (h : j < ts.length) (hs : neg = true ∨ ts[j].v = []) (v : Str) : PosIn2 ats neg (ts.take (j + 1)) v ↔ PosIn2 ats neg (ts.take j) v := by
  unfold PosIn2
  rw [List.take_succ_eq_append_getElem h]
  constructor
  · rintro (h1 | ⟨h1, h2, t, ht, h3⟩)
    · exact .inl h1
    · rcases List.mem_append.1 ht with ht | ht
      · exact .inr ⟨h1, h2, t, ht, h3⟩
      · rw [List.mem_singleton.1 ht] at h3
        rcases hs with hs | hs
        · rw [h2] at hs; cases hs
        · exact absurd (h3.symm.trans hs) h1
  · rintro (h1 | ⟨h1, h2, t, ht, h3⟩)
    · exact .inl h1
    · exact .inr ⟨h1, h2, t, List.mem_append_left _ ht, h3⟩
theorem posIn2_put {ats : List Atm} {ts : List Trm} {j : Nat} (h : j < ts.length) {y : Str} (hy : ts[j].v = y) (hne : y ≠ []) (v : Str) : PosIn2 ats false (ts.take (j + 1)) v ↔ (PosIn2 ats false (ts.take j) v ∨ v = y) := by
  unfold PosIn2
  rw [List.take_succ_eq_append_getElem h]
  constructor
  · rintro (h1 | ⟨h1, h2, t, ht, h3⟩)
    · exact .inl (.inl h1)
    · rcases List.mem_append.1 ht with ht | ht
      · exact .inl (.inr ⟨h1, h2, t, ht, h3⟩)
      · rw [List.mem_singleton.1 ht, hy] at h3
        exact .inr h3.symm
  · rintro ((h1 | ⟨h1, h2, t, ht, h3⟩) | rfl)
    · exact .inl h1
    · exact .inr ⟨h1, h2, t, List.mem_append_left _ ht, h3⟩
    · exact .inr ⟨hne, rfl, ts[j], List.mem_append_right _ (List.mem_singleton.2 rfl), hy⟩
theorem posIn_bound (r : Rul) (v : Str) (hv : v ≠ []) : PosIn r.atoms v ↔ boundB r v = true := by
  unfold PosIn boundB
  simp only [List.any_eq_true, Bool.and_eq_true, Bool.not_eq_true', beq_iff_eq]
  constructor
  · rintro ⟨_, a, ha, h1, t, ht, h2⟩
    exact ⟨a, ha, h1, t, ht, h2⟩
  · rintro ⟨a, ha, h1, t, ht, h2⟩
    exact ⟨hv, a, ha, h1, t, ht, h2⟩

set_option maxRecDepth 100000 in
set_option maxHeartbeats 8000000 in
theorem ast_positive (r : Rul) (T T' : Option Addr) (c c' : Nat) (w : World) (ha : AtmsAt w T r.atoms) (hf : r.few) (hwf : r.wf) :
    Calls Tryz.prog 127 #[.agg #[.slice T r.atoms.length c, .slice T' r.conds.length c']] w fun e w' => ∃ (b n : Nat) (S : List Str), e = .returned (.map (some b)) ∧ w.heap.size ≤ b ∧ SetAt w' b n S ∧ (∀ v, v ∈ S ↔ PosIn r.atoms v) ∧ Below w.heap.size w w' := by
  obtain ⟨ats, cds⟩ := r
  obtain ⟨f1, _, f3⟩ := hf
  have hw0 := hwf.atoms
  simp only at f1 f3 hw0 ha ⊢
  have F3 := hid f3
  have HW := hid hw0
  clear f3 hw0 hwf
  have hmm := @run_makeMap Tryz.prog
  have hb0 := below_two w (.cells #[.slice T ats.length c, .slice T' cds.length c'] 142) (.map #[] 0)
  have hmade : SetAt ((w.alloc (.cells #[.slice T ats.length c, .slice T' cds.length c'] 142)).alloc (.map #[] 0)) (w.heap.size + 1) 0 [] := by
    have := SetAt.made (w.alloc (.cells #[.slice T ats.length c, .slice T' cds.length c'] 142))
    simpa using this
  have HM := hid hmade
  clear hmade
  go_enter Tryz.func127, Tryz.ntmps127
  go_wp2
  go_loopw [12] (fun i wr => ∃ (k n : Nat) (S : List Str), k ≤ ats.length ∧ i = .int .i64 k ∧ n ≤ k * 6 ∧ Hid (SetAt wr (w.heap.size + 1) n S) ∧ Hid (∀ v, v ∈ S ↔ PosIn (ats.take k) v) ∧ Below w.heap.size w wr) (fun i _ => ats.length - (intOf i).toNat)
  case atStart => exact ⟨0, 0, [], by omega, rfl, by omega, HM, hid (by simp [PosIn]), hb0⟩
  case round =>
    obtain ⟨k, n, S, hk, rfl, hn, HS, HP, hbel⟩ := hrel
    obtain ⟨wo, rfl⟩ : ∃ wo : World, wo = wr := ⟨_, rfl⟩
    have hsz := hbel.size
    clear HM hb0
    by_cases hlt : k < ats.length
    · obtain ⟨bb, o, rfl, hc⟩ := ha (by omega)
      obtain ⟨Q, qc, d0, d1, d2, hq, hql, hqm⟩ := hc k hlt
      replace d0 := cell_keep hbel d0
      replace d1 := cell_keep hbel d1
      replace d2 := cell_keep hbel d2
      have hsuc := fun a h v => posIn_succ (a := a) hlt h v
      have h6 := F3.out ats[k] (List.getElem_mem hlt)
      have hwa := HW.out ats[k] (List.getElem_mem hlt)
      obtain ⟨a, ea⟩ : ∃ a, ats[k] = a := ⟨_, rfl⟩
      have hsuc := hid (hsuc a ea)
      rw [ea] at d0 d1 d2 hq hql hqm h6 hwa
      clear ea hc
      obtain ⟨neg, rel, ts⟩ := a
      have HT := hid hwa.ts
      clear hwa
      simp only at *
      obtain ⟨Y, hY, _, _⟩ := nm rel
      rw [hY] at d1
      have hmN : Hid (SetAt (wo.alloc (.cells #[.bool neg, .string Y, .slice Q ts.length qc] 188)) (w.heap.size + 1) n S) := hid (HS.out.alloc _)
      have hlt1 : w.heap.size + 1 < wo.heap.size := HS.out.lt
      have hP0 : Hid (∀ v, v ∈ S ↔ PosIn2 (ats.take k) neg (ts.take 0) v) := hid (fun v => (HP.out v).trans (by rw [List.take_zero, posIn2_nil]))
      have hbN := hbel.alloc hsz (.cells #[.bool neg, .string Y, .slice Q ts.length qc] 188)
      clear HS HP hY
      go_wp2
      go_loopw [19] (fun i wr => ∃ (j m : Nat) (R : List Str), j ≤ ts.length ∧ i = .int .i64 j ∧ m ≤ k * 6 + j ∧ Hid (SetAt wr (w.heap.size + 1) m R) ∧ Hid (∀ v, v ∈ R ↔ PosIn2 (ats.take k) neg (ts.take j) v) ∧ Below w.heap.size w wr ∧ wr.cell? ⟨wo.heap.size, 0, none⟩ = some (.bool neg) ∧ wo.heap.size < wr.heap.size) (fun i _ => ts.length - (intOf i).toNat)
      case atStart => exact ⟨0, n, S, by omega, rfl, by omega, hmN, hP0, hbN, by simp, by simp⟩
      case round =>
        obtain ⟨j, m, R, hj, rfl, hmb, HS, HP, hbelq, e0, hq1⟩ := hrel
        have hszq := hbelq.size
        clear hmN hP0 hbN
        by_cases hjt : j < ts.length
        · obtain ⟨bb2, o2, rfl, hc2⟩ := hq (by omega)
          obtain ⟨g0, g1, g2, g3⟩ := hc2 j hjt
          replace g0 := cell_keep hbelq g0
          replace g1 := cell_keep hbelq g1
          replace g2 := cell_keep hbelq g2
          replace g3 := cell_keep hbelq g3
          have hskip := fun h v => posIn2_skip (ats := ats.take k) (neg := neg) hjt h v
          have hput := fun y h h2 v => posIn2_put (ats := ats.take k) hjt (y := y) h h2 v
          have hvl := (HT.out ts[j] (List.getElem_mem hjt)).v
          generalize ts[j] = t at *
          obtain ⟨v, ⟨ck, cn, cs⟩⟩ := t
          simp only at *
          obtain ⟨Z, hZ, hZd, hZl⟩ := nm v
          have hno := noS hZl
          clear hZl
          rw [hZ] at g0
          have hZs : Z.size ≤ maxLen := by
            have : Z.data.toList.length = Z.size := by simp
            rw [hZd] at this
            unfold maxLen; omega
          have hmN := HS.out.alloc (.cells #[.string Z, .int .i64 ck, .int .i64 cn, .string cs] 201)
          have hbN := hbelq.alloc hszq (.cells #[.string Z, .int .i64 ck, .int .i64 cn, .string cs] 201)
          have e0N := cell_keep (below_one wr (.cells #[.string Z, .int .i64 ck, .int .i64 cn, .string cs] 201)) e0
          have HZ := hid hZd
          clear hZd
          have hNN := hid hmN
          have Hput := hid hput
          have Hskip := hid hskip
          clear hc2 hZ hput hskip hmN HS
          cases neg
          · by_cases hv : v = []
            · have hz : Z.toList.isEmpty = true := by rw [hno]; simpa using hv
              have HN : Hid (∀ v, v ∈ R ↔ PosIn2 (ats.take k) false (ts.take (j + 1)) v) := hid (fun v' => (HP.out v').trans (Hskip.out (.inr hv) v').symm)
              clear hno hv Hput Hskip HP
              go_wp2
              go_roundw
              case rel => exact ⟨j + 1, m, R, by omega, by go_num, by omega, hNN, HN, hbN, e0N, by simp; omega⟩
              case measure => simp [intOf]; omega
            · have hz : Z.toList.isEmpty = false := by rw [hno]; simpa using hv
              have HN : Hid (∀ v', v' ∈ R ++ [v] ↔ PosIn2 (ats.take k) false (ts.take (j + 1)) v') := hid (fun v' => by
                rw [Hput.out v rfl hv v', ← HP.out v']; simp)
              clear hno hv Hput Hskip HP
              go_wp2_with (at_mapUpdate; refine wpList_put rfl _ _ _ rfl hNN.out Tryz.underlying9 Tryz.underlying177 (by unfold maxLen; omega) rfl Z rfl hZs true rfl EB_true ?_; intro w2 hmap2 hg2)
              rw [HZ.out, setF_put] at hmap2
              have hb2 := hbN.grown hg2 hbN.size (fun j hj => by injection hj; omega)
              have e2 := hg2.cell e0N (by simp; omega)
              have hs2 := hg2.size
              go_roundw
              case rel => exact ⟨j + 1, m + 1, R ++ [v], by omega, by go_num, by omega, hid hmap2, HN, hb2, e2, by simp at hs2; omega⟩
              case measure => simp [intOf]; omega
          · have HN : Hid (∀ v, v ∈ R ↔ PosIn2 (ats.take k) true (ts.take (j + 1)) v) := hid (fun v' => (HP.out v').trans (Hskip.out (.inl rfl) v').symm)
            clear hno Hput Hskip HP
            go_wp2
            go_roundw
            case rel => exact ⟨j + 1, m, R, by omega, by go_num, by omega, hNN, HN, hbN, e0N, by simp; omega⟩
            case measure => simp [intOf]; omega
        · have hjn : ts.take j = ts := List.take_of_length_le (by omega)
          have HN : Hid (∀ v, v ∈ R ↔ PosIn (ats.take (k + 1)) v) := hid (fun v => by rw [HP.out v, hjn, hsuc.out v])
          clear HP hjn
          go_wp2
          go_roundw
          case rel => exact ⟨k + 1, m, R, by omega, by go_num, by omega, HS, HN, hbelq⟩
          case measure => simp [intOf]; omega
    · have hkn : ats.take k = ats := List.take_of_length_le (by omega)
      have HN : Hid (∀ v, v ∈ S ↔ PosIn ats v) := hid (fun v => by rw [HP.out v, hkn])
      clear HP hkn
      go_wp2
      go_ret
      exact ⟨w.heap.size + 1, n, S, rfl, by omega, HS.out, HN.out, hbel⟩

/-- A name as a value. -/
def nmV (l : Str) : Value := .string ⟨l.toArray⟩
theorem infoStr : (Tryz.prog.info? 9).map (fun i => (i.zero, i.size, i.bytes)) = some (some (.string ⟨#[]⟩), 1, 16) := by kernel_rfl

theorem own_slice1 {w : World} {B : Nat} {e : TypeId} {z : Nat} {v : Value} {n : Nat} {xs : List Value} (h : w.ownsRow B e z v (n + 1) xs) : ∃ g cap, v = .slice (some ⟨g, 0, none⟩) (n + 1) cap := by
  rcases h.2 with ⟨_, h0⟩ | ⟨g, cap, cur, h1, _⟩
  · omega
  · exact ⟨g, cap, h1⟩
/-- What the closure of Vars works on: the set of the names seen (the empty one too), and the names in their order. -/
structure VInv (w : World) (Bs Bv bm base n : Nat) (acc : List Str) : Prop where
  s : w.heap[Bs]? = some (.cells #[.map (some bm)] 177 (0, 0))
  v : ∃ u, w.heap[Bv]? = some (.cells #[u] 27 (0, 0)) ∧ w.ownsRow base 9 1 u acc.length (acc.map nmV)
  m : SetAt w bm n ([] :: acc)
  d : Bs ≠ Bv ∧ bm ≠ Bs ∧ bm ≠ Bv ∧ Bs < base ∧ Bv < base ∧ bm < base ∧ base ≤ w.heap.size
theorem VInv.below {w w' : World} {Bs Bv bm base n : Nat} {acc : List Str} (h : VInv w Bs Bv bm base n acc) (hb : Below w.heap.size w w') : VInv w' Bs Bv bm base n acc := by
  obtain ⟨h1, ⟨u, h2, h3⟩, h4, h5⟩ := h
  refine ⟨(hb.block _ (lt_of_block h1)).trans h1, ⟨u, (hb.block _ (lt_of_block h2)).trans h2, ?_⟩, h4.below hb, by have := hb.size; omega⟩
  obtain ⟨hl, h0 | ⟨g, cap, cur, hv, hB, hh, r⟩⟩ := h3
  · exact ⟨hl, .inl h0⟩
  · exact ⟨hl, .inr ⟨g, cap, cur, hv, hB, (hb.block g (lt_of_block hh)).trans hh, r⟩⟩
theorem addN_old {acc : List Str} {v : Str} (h : v ∈ [] :: acc) : addN acc v = acc := by
  unfold addN
  rw [if_pos (by simpa using h)]
theorem addN_new {acc : List Str} {v : Str} (h : v ∉ [] :: acc) : addN acc v = acc ++ [v] := by
  unfold addN
  rw [if_neg (by simpa using h)]

set_option maxRecDepth 100000 in
set_option maxHeartbeats 4000000 in
theorem vars_add (X : ByteArray) (Bs Bv bm base n : Nat) (acc : List Str) (w : World) (h : VInv w Bs Bv bm base n acc) (hn : n ≤ 100000) (hacc : acc.length ≤ 100000) (hX : X.size ≤ maxLen) {B : Nat} (hB : B ≤ Bs ∧ B ≤ Bv ∧ B ≤ bm) :
    Calls Tryz.prog 150 #[.string X, .pointer (some ⟨Bs, 0, none⟩), .pointer (some ⟨Bv, 0, none⟩)] w fun e w' => e = .returned (.tuple #[]) ∧ VInv w' Bs Bv bm base (n + 1) (addN acc X.data.toList) ∧ Below B w w' := by
  obtain ⟨h1, ⟨u, h2, h3⟩, h4, d1, d2, d3, d4, d5, d6, d7⟩ := h
  obtain ⟨i0, hi, hz0, hz1, hz2⟩ := info_parts infoStr
  obtain ⟨x, hx⟩ : ∃ x, X.data.toList = x := ⟨_, rfl⟩
  rw [hx]
  have c1 := cell_of_one h1
  have c2 := cell_of_one h2
  have HX := hid hx
  have H1 := hid h1
  have H2 := hid h2
  have H3 := hid h3
  have H4 := hid h4
  clear hx h1 h2 h3 h4
  by_cases hm : x ∈ [] :: acc
  · have hs : (setF ([] :: acc) X.data.toList).getD false = true := by rw [HX.out, setF_get]; simpa using hm
    have hv : EB.R ((setF ([] :: acc) X.data.toList).getD false) = .bool true := by rw [hs]; rfl
    have ha := addN_old hm
    have HV := hid hv
    have HA := hid ha
    clear hs hm hv ha
    go_enter Tryz.func150, Tryz.ntmps150
    go_wp2_with (at_lookup; refine wpList_look rfl _ _ rfl H4.out EB_ok Tryz.underlying9 Tryz.underlying177 rfl X rfl hX (.bool true) HV.out ?_)
    go_end0
    refine ⟨rfl, ?_, Below.refl _ _⟩
    rw [HA.out]
    exact ⟨H1.out, ⟨u, H2.out, H3.out⟩, H4.out.mono (by omega), d1, d2, d3, d4, d5, d6, d7⟩
  · have hs : (setF ([] :: acc) X.data.toList).getD false = false := by rw [HX.out, setF_get]; simpa using hm
    have hv : EB.R ((setF ([] :: acc) X.data.toList).getD false) = .bool false := by rw [hs]; rfl
    have ha := addN_new hm
    have HV := hid hv
    have HA := hid ha
    have HNm := hid hm
    clear hs hm hv ha
    go_enter Tryz.func150, Tryz.ntmps150
    go_wp2_with (first
      | (at_lookup; refine wpList_look rfl _ _ rfl H4.out EB_ok Tryz.underlying9 Tryz.underlying177 rfl X rfl hX (.bool false) HV.out ?_)
      | (at_mapUpdate; refine wpList_put rfl _ _ _ rfl H4.out Tryz.underlying9 Tryz.underlying177 (by unfold maxLen; omega) rfl X rfl hX true rfl EB_true ?_; intro w2 hmap2 hg2; have e1 := (hg2.block Bs (lt_of_block H1.out) (by simp; omega)).trans H1.out; have e2 := (hg2.block Bv (lt_of_block H2.out) (by simp; omega)).trans H2.out; have f2 := cell_of_one e2; have g2 := free_of_one e2; have E1 := hid e1; have E2 := hid e2; clear e1 e2; have hown2 := hid (H3.out.kept hg2 (Or.inr (fun e => by have := (H3.out.lt bm e).1; omega))))
      | (at_builtin; refine wpList_append_new2 Tryz.underlying27 hi hz0 hz1 hz2 rfl (by decide) (by decide) rfl rfl rfl hown2.out rfl (by simp) rfl rfl (by omega) (Nat.le_trans d7 hg2.size) ?_; intro v3 w3 hown3 hg3; obtain ⟨g3, cap3, rfl⟩ := own_slice1 hown3; have hl0 := lt_of_block E2.out; have q2 := (hg3.block Bv hl0 (fun e => by have := (hown2.out.lt Bv e.symm).1; omega)).trans E2.out; have r2 := cell_of_one q2; have s2 := free_of_one q2; have Q2 := hid q2; have Q1 := hid ((hg3.block Bs (lt_of_block E1.out) (fun e => by have := (hown2.out.lt Bs e.symm).1; omega)).trans E1.out); clear q2))
    go_end0
    have hm3 : MapAt Tryz.prog 4 9 EB w3 bm (n + 1) (updF (setF ([] :: acc)) X.data.toList true) := hmap2.kept hg3 (fun e => by have := (hown2.out.lt bm e.symm).1; omega)
    rw [HX.out, setF_put] at hm3
    refine ⟨rfl, ?_, ?_⟩
    · rw [HA.out]
      refine ⟨?_, ⟨_, one_setCell Q2.out, ?_⟩, ?_, d1, d2, d3, d4, d5, d6, ?_⟩
      · rw [Below.heap_setCell _ _ _ _ (by show Bs ≠ Bv; exact d1)]; exact Q1.out
      · rw [List.length_append, List.map_append]
        have hX2 : nmV x = .string X := by rw [← HX.out]; rfl
        rw [List.map_singleton, hX2]
        refine ownsRow_setCell_other hown3 (fun e => ?_) _
        have e := (hown3.lt Bv e).1
        omega
      · exact hm3.same (Below.heap_setCell _ _ _ _ (by show bm ≠ Bv; exact d3))
      · have h1 := hg2.size
        have h2 := hg3.size
        show base ≤ (w3.setCell _ _).heap.size
        simp [World.setCell]; omega
    · exact (((Below.refl B w).grown hg2 (by omega) (fun j hj => by injection hj; omega)).grown hg3 (by have := hg2.size; omega) (fun j hj => by have := (hown2.out.lt j hj).1; omega)).setCell (by show B ≤ Bv; omega) _
end
end Go.Proofs.YtjhnopnppimnhaaGreatDoor
