/-
  PARTS of a claim, merged by segs.py: CwC3.
-/
import Derived.Test.YtggfcdhkgldbfaaDoorS31
import Derived.Test.YtggfcdhkgldbfaaDoorS29
import Derived.Test.YtggfcdhkgldbfaaDoorS33
namespace Go.Proofs.YtggfcdhkgldbfaaDoor
set_option linter.unusedSimpArgs false
set_option linter.unusedVariables false

/-! ### CwC3 -/
section
set_option linter.unusedSimpArgs false
open Go Go.Conc Go.RowKit Go.ConcR.Gen Cw

section
variable {Sh : Loc → Prop} {W w w' : World} {main : Bool}
/-- One operation of such a region, what follows behind a variable. -/
theorem opC_k {P : Program} {R : World → World → Prop} {D : World → World → Array Event → Prop} {fn : FuncId} {ops : Array Oper} {i : Nat} {o : Oper} {a : Act} {Kn : Act → World → Prop} (ho : ops[i]? = some o) (hw : Region.wanted o (yielded ops a.tmps) = true)
    (h : ∀ w₁, R w w₁ → ∀ K : Act → World → Prop, (∀ a' w', D w₁ w' (listed P fn a o w₁) ∧ Kn a' w' → K a' w') → uponK o a K ((execOp a.eval o).run P w₁)) : OpC P R D fn ops i Kn a w := by
  unfold OpC
  simp only [ho, hw, if_true]
  exact fun w₁ h₁ => h w₁ h₁ _ fun _ _ x => x
theorem opC_append {P : Program} (hS : ShOk Sh W) {fn : FuncId} {a : Act} {ops : Array Oper} {i : Nat} {o : Oper} {Kn : Act → World → Prop}
    (ho : ops[i]? = some o) (hw : Region.wanted o (yielded ops a.tmps) = true) (s x : Operand) (t : TypeId) (hop : o.op = .call { callee := .builtin .append, args := #[s, x], argTypes := #[t, t] })
    {e : TypeId} {info : TypeInfo} {z : Value} {size bytes : Nat} (ht : P.underlying t = some (.slice e)) (hi : P.info? e = some info) (hz : info.zero = some z) (hsize : info.size = size) (hby : info.bytes = bytes) (hzs : z.cells.size = size) (hsz : 0 < size)
    {v : Value} {n : Nat} {xs : List Value} (hs : a.eval s = v) {ad : Addr} {m c : Nat} {news : List Value} (hx : a.eval x = .slice (some ad) m c) (hm : 0 < m) (hl : news.length = m * size) (h1 : ∀ u ∈ news, u.oneCell' = true) (h63 : n + m ≤ maxLen) (hbytes : (n + m) * bytes ≤ 140737488355328)
    (hF : Ext Vn W w ∧ w.ownsRow W.heap.size e size v n xs) (hnews : ∀ j u, news[j]? = some u → w.cell? (ad.add j) = some u) (had : W.heap.size ≤ ad.block)
    (hnext : ∀ v' w₁ w', Ext Vn w w₁ → w₁.grownBy w' v.ownBlock → Ext Vn W w' ∧ w'.ownsRow W.heap.size e size v' (n + m) (xs ++ news) → Kn (a.put o.dst v') w') : OpC P (Ext Vn) (HDq (Cx0 Sh)) fn ops i Kn a w := by
  unfold OpC
  simp only [ho, hw, if_true]
  intro w₁ hR
  have hE := hF.1.trans hR
  have hown := ownsRow_ext hF.2 hR fun _ _ => id
  replace hnews : ∀ j u, news[j]? = some u → w₁.cell? (ad.add j) = some u := fun j u h => by rw [cell_of_block (hR.same _ (block_of_cell (hnews j u h)) id)]; exact hnews j u h
  have hlad : ad.block < w₁.heap.size := by
    have h0 : 0 < news.length := by rw [hl]; exact Nat.mul_pos hm hsz
    obtain ⟨u, hu⟩ : ∃ u, news[0]? = some u := ⟨_, List.getElem?_eq_getElem h0⟩
    have := block_of_cell (hnews 0 u hu)
    simpa [Addr.add] using this
  obtain ⟨v', w', hr, ho', hg, _⟩ := run_append_own w₁ W.heap.size t o.type e info z size bytes ht hi hz hsize hby hzs hsz v n xs hown ad m c news hl hnews h1 h63 hbytes hE.size
  rw [run_append_op s x t hop hs hx hr, uponK_value]
  have F := floor0 hS
  have hrow : ∀ g, v.ownBlock = some g → W.heap.size ≤ g := fun g hg' => (hown.lt g hg').1
  refine ⟨hdq_grown F hE.size hg (fun g hg' => ⟨F.ok (hrow g hg'), nobox g⟩) fun ev hev => ?_, hnext v' w₁ w' hR hg ⟨ext_grown hE hg hrow, ho'⟩⟩
  have hm' := mem_listed hev
  rw [events_append_op s x t hop hs hx] at hm'
  rcases events_append_where w₁ W.heap.size t o.type e info z size bytes ht hi hz hsize hby v n xs hown ad m c news hl hnews h1 h63 hbytes ev hm' with ⟨a', h2, h3⟩ | ⟨mk, rfl, hmk⟩
  · refine .inl ⟨a', h2, ?_⟩
    rcases h3 with ⟨h4, h5⟩ | h5
    · exact ⟨by rw [h5]; exact Nat.lt_of_lt_of_le hlad hg.size, (F.ok had).sh _ h5, fun e => by rw [h4] at e; cases e⟩
    · have hlt := (hown.lt _ h5.symm).2
      exact ⟨Nat.lt_of_lt_of_le hlt hg.size, (F.ok (hrow _ h5.symm)).sh _ rfl, fun _ hp => hp.elim (fun h => h) fun x => nobox _ x.2.2⟩
  · exact .inr (by rw [show mk = .noRoom from hmk])

/-- The state of the document's Run. -/
structure RF (W : World) (ab : Nat) (A : List Nat) (u : Value) (E : List (Int × ByteArray)) (w : World) : Prop where
  ext : Ext Vn W w
  lo : W.heap.size ≤ ab
  at_ : w.heap[ab]? = some (.cells (ints A).toArray 3 (0, 0))
  row : w.ownsRow W.heap.size 40 2 u E.length (evCells E)
variable {ab : Nat} {A : List Nat} {u : Value} {E : List (Int × ByteArray)}
theorem RF.rl (h : RF W ab A u E w) (r : Ext Vn w w') : RF W ab A u E w' :=
  ⟨h.ext.trans r, h.lo, (r.same _ (Array.getElem?_eq_some_iff.1 h.at_).1 id).trans h.at_, ownsRow_ext h.row r fun _ _ => id⟩
theorem RF.cell (h : RF W ab A u E w) {k x : Nat} (hk : A[k]? = some x) : w.cell? ⟨ab, k, none⟩ = some (.int .i64 x) := by
  simp [World.cell?, h.at_, ints, hk]
theorem RF.unfrozen (h : RF W ab A u E w) (k : Nat) : w.frozen? ⟨ab, k, none⟩ = false := by
  simp [World.frozen?, h.at_]
theorem RF.own_ne (h : RF W ab A u E w) {g : Nat} (hg : u.ownBlock = some g) : g ≠ ab := by
  rintro rfl
  rcases h.row.2 with ⟨rfl, _⟩ | ⟨g', cap, cur, rfl, _, hgg, _⟩
  · simp [Value.ownBlock] at hg
  · simp only [Value.ownBlock, Option.some.injEq] at hg
    subst hg
    rw [h.at_] at hgg
    simp at hgg
theorem RF.set (h : RF W ab A u E w) (k x : Nat) : RF W ab (A.set k x) u E (w.setCell ⟨ab, k, none⟩ (.int .i64 x)) := by
  have hs := fun {b : Nat} (hb : b ≠ ab) => heap_setCell_ne w ⟨ab, k, none⟩ (.int .i64 x) hb
  have hl := h.lo
  refine ⟨⟨by rw [size_setCell']; exact h.ext.size, fun b hb _ => (hs (by omega)).trans (h.ext.same b hb id), h.ext.tape, h.ext.os, h.ext.output⟩, h.lo, ?_, ⟨h.row.1, ?_⟩⟩
  · simp only [World.setCell, Array.getElem?_modify, if_true, h.at_, Option.map_some]
    congr 2
    simp [ints, List.map_set]
  · rcases h.row.2 with hn | ⟨g, cap, cur, rfl, hb, hgg, rest⟩
    · exact .inl hn
    · exact .inr ⟨g, cap, cur, rfl, hb, (hs (h.own_ne rfl)).trans hgg, rest⟩
theorem RF.alloc (h : RF W ab A u E w) (o : Obj) : RF W ab A u E (w.alloc o) := h.rl (Ext.alloc Vn w o)
theorem RF.grown (h : RF W ab A u E w) {w₁ : World} {v' : Value} {E' : List (Int × ByteArray)} (r : Ext Vn w w₁) (hg : w₁.grownBy w' u.ownBlock) (hE : Ext Vn W w' ∧ w'.ownsRow W.heap.size 40 2 v' E'.length (evCells E')) : RF W ab A v' E' w' := by
  have h₁ := h.rl r
  refine ⟨hE.1, h.lo, ?_, hE.2⟩
  rw [hg.block ab (Array.getElem?_eq_some_iff.1 h₁.at_).1 fun e => h.own_ne e.symm rfl]
  exact h₁.at_
theorem reInfo : ∃ it, Tryd.prog.info? 40 = some it ∧ it.zero = some (.agg #[.int .i64 0, .string .empty]) ∧ it.size = 2 ∧ it.bytes = 24 := by
  have h : (Tryd.prog.info? 40).map (fun i => (i.zero, i.size, i.bytes)) = some (some (.agg #[.int .i64 0, .string .empty]), 2, 24) := by kernel_rfl
  obtain ⟨i, hi, hb⟩ := Option.map_eq_some_iff.1 h
  simp at hb
  exact ⟨i, hi, hb⟩
theorem bldR (i : Int) (s : ByteArray) (w : World) : (Instr.build 40 #[(0, .int .i64 i), (1, .string s)]).run Tryd.prog w = .ok (.agg #[.int .i64 i, .string s]) w := run_build w _ _ _ (by kernel_rfl)
theorem bldRE (i : Int) (s : ByteArray) (w : World) (es : Array Event) : (Instr.build 40 #[(0, .int .i64 i), (1, .string s)]).events Tryd.prog w es = es := by
  obtain ⟨it, hit, h1, _⟩ := reInfo
  obtain ⟨i3, h3, g3⟩ := sz_of 3 (n := 1) (by kernel_rfl)
  obtain ⟨i9, h9, g9⟩ := sz_of 9 (n := 1) (by kernel_rfl)
  simp [Instr.build, go_sem, sizeOf, typeInfo, zeroValue, hit, h1, h3, g3, h9, g9]
theorem blsR (i : Int) (s : ByteArray) (w : World) : (Instr.buildSlice 37 1 #[(0, .agg #[.int .i64 i, .string s])]).run Tryd.prog w = .ok (.slice (some ⟨w.heap.size, 0, none⟩) 1 1) (w.alloc (.cells #[.int .i64 i, .string s] 40)) := by
  obtain ⟨it, hit, h1, h2, _⟩ := reInfo
  refine run_buildSlice w _ _ 1 _ _ it _ (by kernel_rfl) hit h1 (by rw [h2]; omega) (by rw [h2]; omega) ?_
  rw [h2]
  kernel_rfl
theorem blsRE (i : Int) (s : ByteArray) (w : World) (es : Array Event) : (Instr.buildSlice 37 1 #[(0, .agg #[.int .i64 i, .string s])]).events Tryd.prog w es = es := by
  obtain ⟨it, hit, h1, h2, _⟩ := reInfo
  simp [Instr.buildSlice, go_sem, sizeOf, typeInfo, zeroValue, hit, h1, h2]
end

/-- One step of the document's. -/
def refStep (L : List (List ByteArray)) (s : List Nat × List (Int × ByteArray)) (t : Nat) : List Nat × List (Int × ByteArray) :=
  (s.1.set t (s.1.getD t 0 + 1), match (Sk L t)[s.1.getD t 0]? with
    | some x => s.2 ++ [((t : Int), x)]
    | none => s.2)
/-- One task to its end. -/
def refDrain (L : List (List ByteArray)) (s : List Nat × List (Int × ByteArray)) (t : Nat) : List Nat × List (Int × ByteArray) := itr (fun s => refStep L s t) ((Sk L t).length - s.1.getD t 0) s
def refRun (L : List (List ByteArray)) (ps : List Nat) : List (Int × ByteArray) := ((List.range L.length).foldl (refDrain L) (ps.foldl (refStep L) (List.replicate L.length 0, []))).2
end
end Go.Proofs.YtggfcdhkgldbfaaDoor
