/-
  PARTS of a claim, merged by segs.py: CwC3, CwAwk, CwAwk2.
-/
import Derived.Test.YtggfcdhkgldbfaaD31
import Derived.Test.YtggfcdhkgldbfaaD29
import Derived.Test.YtggfcdhkgldbfaaD36
import Derived.Test.YtggfcdhkgldbfaaD30
namespace Go.Proofs.Ytggfcdhkgldbfaa
set_option linter.unusedSimpArgs false
set_option linter.unusedVariables false

/-! ### CwC3 -/
section
set_option linter.unusedSimpArgs false
open Go Go.Conc Go.RowKit Go.ConcR.Gen Cw

section
variable {Sh : Loc → Prop} {W w w' : World} {main : Bool}
/-- One operation of such a region, what follows behind a variable. -/
theorem opC_k {P : Program} {R : World → World → Prop} {D : World → World → Array Event → Prop} {fn : FuncId} {ops : Array Oper} {i : Nat} {o : Oper} {a : Act} {Kn : Act → World → Prop} (ho : ops[i]? = some o) (hw : Region.wanted o (yielded ops a.tmps) = true)
    (h : ∀ w₁, R w w₁ → ∀ K : Act → World → Prop, (∀ a' w', D w₁ w' (listed P fn a o w₁) ∧ Kn a' w' → K a' w') → uponK o a K ((execOp a.eval o).run P w₁)) : OpC P R D fn ops i Kn a w := by
  unfold OpC
  simp only [ho, hw, if_true]
  exact fun w₁ h₁ => h w₁ h₁ _ fun _ _ x => x
theorem opC_append {P : Program} (hS : ShOk Sh W) {fn : FuncId} {a : Act} {ops : Array Oper} {i : Nat} {o : Oper} {Kn : Act → World → Prop}
    (ho : ops[i]? = some o) (hw : Region.wanted o (yielded ops a.tmps) = true) (s x : Operand) (t : TypeId) (hop : o.op = .call { callee := .builtin .append, args := #[s, x], argTypes := #[t, t] })
    {e : TypeId} {info : TypeInfo} {z : Value} {size bytes : Nat} (ht : P.underlying t = some (.slice e)) (hi : P.info? e = some info) (hz : info.zero = some z) (hsize : info.size = size) (hby : info.bytes = bytes) (hzs : z.cells.size = size) (hsz : 0 < size)
    {v : Value} {n : Nat} {xs : List Value} (hs : a.eval s = v) {ad : Addr} {m c : Nat} {news : List Value} (hx : a.eval x = .slice (some ad) m c) (hm : 0 < m) (hl : news.length = m * size) (h1 : ∀ u ∈ news, u.oneCell' = true) (h63 : n + m ≤ maxLen) (hbytes : (n + m) * bytes ≤ 140737488355328)
    (hF : Ext Vn W w ∧ w.ownsRow W.heap.size e size v n xs) (hnews : ∀ j u, news[j]? = some u → w.cell? (ad.add j) = some u) (had : W.heap.size ≤ ad.block)
    (hnext : ∀ v' w₁ w', Ext Vn w w₁ → w₁.grownBy w' v.ownBlock → Ext Vn W w' ∧ w'.ownsRow W.heap.size e size v' (n + m) (xs ++ news) → Kn (a.put o.dst v') w') : OpC P (Ext Vn) (HDq (Cx0 Sh)) fn ops i Kn a w := by
  unfold OpC
  simp only [ho, hw, if_true]
  intro w₁ hR
  have hE := hF.1.trans hR
  have hown := ownsRow_ext hF.2 hR fun _ _ => id
  replace hnews : ∀ j u, news[j]? = some u → w₁.cell? (ad.add j) = some u := fun j u h => by rw [cell_of_block (hR.same _ (block_of_cell (hnews j u h)) id)]; exact hnews j u h
  have hlad : ad.block < w₁.heap.size := by
    have h0 : 0 < news.length := by rw [hl]; exact Nat.mul_pos hm hsz
    obtain ⟨u, hu⟩ : ∃ u, news[0]? = some u := ⟨_, List.getElem?_eq_getElem h0⟩
    have := block_of_cell (hnews 0 u hu)
    simpa [Addr.add] using this
  obtain ⟨v', w', hr, ho', hg, _⟩ := run_append_own w₁ W.heap.size t o.type e info z size bytes ht hi hz hsize hby hzs hsz v n xs hown ad m c news hl hnews h1 h63 hbytes hE.size
  rw [run_append_op s x t hop hs hx hr, uponK_value]
  have F := floor0 hS
  have hrow : ∀ g, v.ownBlock = some g → W.heap.size ≤ g := fun g hg' => (hown.lt g hg').1
  refine ⟨hdq_grown F hE.size hg (fun g hg' => ⟨F.ok (hrow g hg'), nobox g⟩) fun ev hev => ?_, hnext v' w₁ w' hR hg ⟨ext_grown hE hg hrow, ho'⟩⟩
  have hm' := mem_listed hev
  rw [events_append_op s x t hop hs hx] at hm'
  rcases events_append_where w₁ W.heap.size t o.type e info z size bytes ht hi hz hsize hby v n xs hown ad m c news hl hnews h1 h63 hbytes ev hm' with ⟨a', h2, h3⟩ | ⟨mk, rfl, hmk⟩
  · refine .inl ⟨a', h2, ?_⟩
    rcases h3 with ⟨h4, h5⟩ | h5
    · exact ⟨by rw [h5]; exact Nat.lt_of_lt_of_le hlad hg.size, (F.ok had).sh _ h5, fun e => by rw [h4] at e; cases e⟩
    · have hlt := (hown.lt _ h5.symm).2
      exact ⟨Nat.lt_of_lt_of_le hlt hg.size, (F.ok (hrow _ h5.symm)).sh _ rfl, fun _ hp => hp.elim (fun h => h) fun x => nobox _ x.2.2⟩
  · exact .inr (by rw [show mk = .noRoom from hmk])

/-- The state of the document's Run. -/
structure RF (W : World) (ab : Nat) (A : List Nat) (u : Value) (E : List (Int × ByteArray)) (w : World) : Prop where
  ext : Ext Vn W w
  lo : W.heap.size ≤ ab
  at_ : w.heap[ab]? = some (.cells (ints A).toArray 3 (0, 0))
  row : w.ownsRow W.heap.size 41 2 u E.length (evCells E)
variable {ab : Nat} {A : List Nat} {u : Value} {E : List (Int × ByteArray)}
theorem RF.rl (h : RF W ab A u E w) (r : Ext Vn w w') : RF W ab A u E w' :=
  ⟨h.ext.trans r, h.lo, (r.same _ (Array.getElem?_eq_some_iff.1 h.at_).1 id).trans h.at_, ownsRow_ext h.row r fun _ _ => id⟩
theorem RF.cell (h : RF W ab A u E w) {k x : Nat} (hk : A[k]? = some x) : w.cell? ⟨ab, k, none⟩ = some (.int .i64 x) := by
  simp [World.cell?, h.at_, ints, hk]
theorem RF.unfrozen (h : RF W ab A u E w) (k : Nat) : w.frozen? ⟨ab, k, none⟩ = false := by
  simp [World.frozen?, h.at_]
theorem RF.own_ne (h : RF W ab A u E w) {g : Nat} (hg : u.ownBlock = some g) : g ≠ ab := by
  rintro rfl
  rcases h.row.2 with ⟨rfl, _⟩ | ⟨g', cap, cur, rfl, _, hgg, _⟩
  · simp [Value.ownBlock] at hg
  · simp only [Value.ownBlock, Option.some.injEq] at hg
    subst hg
    rw [h.at_] at hgg
    simp at hgg
theorem RF.set (h : RF W ab A u E w) (k x : Nat) : RF W ab (A.set k x) u E (w.setCell ⟨ab, k, none⟩ (.int .i64 x)) := by
  have hs := fun {b : Nat} (hb : b ≠ ab) => heap_setCell_ne w ⟨ab, k, none⟩ (.int .i64 x) hb
  have hl := h.lo
  refine ⟨⟨by rw [size_setCell']; exact h.ext.size, fun b hb _ => (hs (by omega)).trans (h.ext.same b hb id), h.ext.tape, h.ext.os, h.ext.output⟩, h.lo, ?_, ⟨h.row.1, ?_⟩⟩
  · simp only [World.setCell, Array.getElem?_modify, if_true, h.at_, Option.map_some]
    congr 2
    simp [ints, List.map_set]
  · rcases h.row.2 with hn | ⟨g, cap, cur, rfl, hb, hgg, rest⟩
    · exact .inl hn
    · exact .inr ⟨g, cap, cur, rfl, hb, (hs (h.own_ne rfl)).trans hgg, rest⟩
theorem RF.alloc (h : RF W ab A u E w) (o : Obj) : RF W ab A u E (w.alloc o) := h.rl (Ext.alloc Vn w o)
theorem RF.grown (h : RF W ab A u E w) {w₁ : World} {v' : Value} {E' : List (Int × ByteArray)} (r : Ext Vn w w₁) (hg : w₁.grownBy w' u.ownBlock) (hE : Ext Vn W w' ∧ w'.ownsRow W.heap.size 41 2 v' E'.length (evCells E')) : RF W ab A v' E' w' := by
  have h₁ := h.rl r
  refine ⟨hE.1, h.lo, ?_, hE.2⟩
  rw [hg.block ab (Array.getElem?_eq_some_iff.1 h₁.at_).1 fun e => h.own_ne e.symm rfl]
  exact h₁.at_
theorem reInfo : ∃ it, Try.prog.info? 41 = some it ∧ it.zero = some (.agg #[.int .i64 0, .string .empty]) ∧ it.size = 2 ∧ it.bytes = 24 := by
  have h : (Try.prog.info? 41).map (fun i => (i.zero, i.size, i.bytes)) = some (some (.agg #[.int .i64 0, .string .empty]), 2, 24) := by kernel_rfl
  obtain ⟨i, hi, hb⟩ := Option.map_eq_some_iff.1 h
  simp at hb
  exact ⟨i, hi, hb⟩
theorem bldR (i : Int) (s : ByteArray) (w : World) : (Instr.build 41 #[(0, .int .i64 i), (1, .string s)]).run Try.prog w = .ok (.agg #[.int .i64 i, .string s]) w := run_build w _ _ _ (by kernel_rfl)
theorem bldRE (i : Int) (s : ByteArray) (w : World) (es : Array Event) : (Instr.build 41 #[(0, .int .i64 i), (1, .string s)]).events Try.prog w es = es := by
  obtain ⟨it, hit, h1, _⟩ := reInfo
  obtain ⟨i3, h3, g3⟩ := sz_of 3 (n := 1) (by kernel_rfl)
  obtain ⟨i9, h9, g9⟩ := sz_of 9 (n := 1) (by kernel_rfl)
  simp [Instr.build, go_sem, sizeOf, typeInfo, zeroValue, hit, h1, h3, g3, h9, g9]
theorem blsR (i : Int) (s : ByteArray) (w : World) : (Instr.buildSlice 35 1 #[(0, .agg #[.int .i64 i, .string s])]).run Try.prog w = .ok (.slice (some ⟨w.heap.size, 0, none⟩) 1 1) (w.alloc (.cells #[.int .i64 i, .string s] 41)) := by
  obtain ⟨it, hit, h1, h2, _⟩ := reInfo
  refine run_buildSlice w _ _ 1 _ _ it _ (by kernel_rfl) hit h1 (by rw [h2]; omega) (by rw [h2]; omega) ?_
  rw [h2]
  kernel_rfl
theorem blsRE (i : Int) (s : ByteArray) (w : World) (es : Array Event) : (Instr.buildSlice 35 1 #[(0, .agg #[.int .i64 i, .string s])]).events Try.prog w es = es := by
  obtain ⟨it, hit, h1, h2, _⟩ := reInfo
  simp [Instr.buildSlice, go_sem, sizeOf, typeInfo, zeroValue, hit, h1, h2]
end

/-- One step of the document's. -/
def refStep (L : List (List ByteArray)) (s : List Nat × List (Int × ByteArray)) (t : Nat) : List Nat × List (Int × ByteArray) :=
  (s.1.set t (s.1.getD t 0 + 1), match (Sk L t)[s.1.getD t 0]? with
    | some x => s.2 ++ [((t : Int), x)]
    | none => s.2)
/-- One task to its end. -/
def refDrain (L : List (List ByteArray)) (s : List Nat × List (Int × ByteArray)) (t : Nat) : List Nat × List (Int × ByteArray) := itr (fun s => refStep L s t) ((Sk L t).length - s.1.getD t 0) s
def refRun (L : List (List ByteArray)) (ps : List Nat) : List (Int × ByteArray) := ((List.range L.length).foldl (refDrain L) (ps.foldl (refStep L) (List.replicate L.length 0, []))).2
end

/-! ### CwAwk -/
section
set_option linter.unusedSimpArgs false
open Go Go.Conc Go.RowKit Go.ConcR.Gen Cw

noncomputable def body9 : Code := Try.f9.body.getD .skip
noncomputable def ops9a : Array Oper := opsOf (lf (rt body9))
noncomputable def ops9b : Array Oper := opsOf (lf (rt (rt body9)))
abbrev fAw (T : Array Value) (k : List Item) : Frame := (base 9).at ⟨T, []⟩ k
abbrev strA : ByteArray := ⟨#[97]⟩
abbrev strB : ByteArray := ⟨#[98]⟩
abbrev strC : ByteArray := ⟨#[99]⟩
theorem strInfo : ∃ i, Try.prog.info? 9 = some i ∧ i.zero = some (.string .empty) ∧ i.size = 1 := by
  have h : (Try.prog.info? 9).map (fun i => (i.zero, i.size)) = some (some (.string .empty), 1) := by kernel_rfl
  obtain ⟨i, hi, hb⟩ := Option.map_eq_some_iff.1 h
  simp at hb
  exact ⟨i, hi, hb⟩
theorem rowInfo : ∃ i, Try.prog.info? 38 = some i ∧ i.zero = some (.slice none 0 0) ∧ i.size = 1 := by
  have h : (Try.prog.info? 38).map (fun i => (i.zero, i.size)) = some (some (.slice none 0 0), 1) := by kernel_rfl
  obtain ⟨i, hi, hb⟩ := Option.map_eq_some_iff.1 h
  simp at hb
  exact ⟨i, hi, hb⟩
theorem bI2 (x y : Int) (w : World) : (Instr.buildSlice 24 2 #[(0, .int .i64 x), (1, .int .i64 y)]).run Try.prog w = .ok (.slice (some ⟨w.heap.size, 0, none⟩) 2 2) (w.alloc (.cells #[.int .i64 x, .int .i64 y] 3)) := by
  obtain ⟨it, hit, h1, h2, _⟩ := intInfo
  refine run_buildSlice w _ _ 2 _ _ it _ (by kernel_rfl) hit h1 (by rw [h2]; omega) (by rw [h2]; omega) ?_
  rw [h2]
  kernel_rfl
theorem bI2E (x y : Int) (w : World) (es : Array Event) : (Instr.buildSlice 24 2 #[(0, .int .i64 x), (1, .int .i64 y)]).events Try.prog w es = es := by
  obtain ⟨it, hit, h1, h2, _⟩ := intInfo
  simp [Instr.buildSlice, go_sem, sizeOf, typeInfo, zeroValue, hit, h1, h2]
theorem bS2 (x y : ByteArray) (w : World) : (Instr.buildSlice 38 2 #[(0, .string x), (1, .string y)]).run Try.prog w = .ok (.slice (some ⟨w.heap.size, 0, none⟩) 2 2) (w.alloc (.cells #[.string x, .string y] 9)) := by
  obtain ⟨it, hit, h1, h2⟩ := strInfo
  refine run_buildSlice w _ _ 2 _ _ it _ (by kernel_rfl) hit h1 (by rw [h2]; omega) (by rw [h2]; omega) ?_
  rw [h2]
  kernel_rfl
theorem bS2E (x y : ByteArray) (w : World) (es : Array Event) : (Instr.buildSlice 38 2 #[(0, .string x), (1, .string y)]).events Try.prog w es = es := by
  obtain ⟨it, hit, h1, h2⟩ := strInfo
  simp [Instr.buildSlice, go_sem, sizeOf, typeInfo, zeroValue, hit, h1, h2]
theorem bS1 (x : ByteArray) (w : World) : (Instr.buildSlice 38 1 #[(0, .string x)]).run Try.prog w = .ok (.slice (some ⟨w.heap.size, 0, none⟩) 1 1) (w.alloc (.cells #[.string x] 9)) := by
  obtain ⟨it, hit, h1, h2⟩ := strInfo
  refine run_buildSlice w _ _ 1 _ _ it _ (by kernel_rfl) hit h1 (by rw [h2]; omega) (by rw [h2]; omega) ?_
  rw [h2]
  kernel_rfl
theorem bS1E (x : ByteArray) (w : World) (es : Array Event) : (Instr.buildSlice 38 1 #[(0, .string x)]).events Try.prog w es = es := by
  obtain ⟨it, hit, h1, h2⟩ := strInfo
  simp [Instr.buildSlice, go_sem, sizeOf, typeInfo, zeroValue, hit, h1, h2]
theorem bL2 (a b : Option Addr) (n c n' c' : Nat) (w : World) : (Instr.buildSlice 23 2 #[(0, .slice a n c), (1, .slice b n' c')]).run Try.prog w = .ok (.slice (some ⟨w.heap.size, 0, none⟩) 2 2) (w.alloc (.cells #[.slice a n c, .slice b n' c'] 38)) := by
  obtain ⟨it, hit, h1, h2⟩ := rowInfo
  refine run_buildSlice w _ _ 2 _ _ it _ (by kernel_rfl) hit h1 (by rw [h2]; omega) (by rw [h2]; omega) ?_
  rw [h2]
  kernel_rfl
theorem bL2E (a b : Option Addr) (n c n' c' : Nat) (w : World) (es : Array Event) : (Instr.buildSlice 23 2 #[(0, .slice a n c), (1, .slice b n' c')]).events Try.prog w es = es := by
  obtain ⟨it, hit, h1, h2⟩ := rowInfo
  simp [Instr.buildSlice, go_sem, sizeOf, typeInfo, zeroValue, hit, h1, h2]
section
variable {Sh : Loc → Prop} {W : World} {mn : Bool}
abbrev KnA (W : World) (pa sa sb sl : Nat) : World → Prop := Kn W [(sl, Obj.cells #[.slice (some ⟨sa, 0, none⟩) 2 2, .slice (some ⟨sb, 0, none⟩) 1 1] 38 (0, 0)), (sb, Obj.cells #[.string strC] 9 (0, 0)), (sa, Obj.cells #[.string strA, .string strB] 9 (0, 0)), (pa, Obj.cells #[.int .i64 1, .int .i64 0] 3 (0, 0))]
set_option maxRecDepth 100000 in
set_option maxHeartbeats 2000000 in
/-- To the call of tasks. -/
theorem a_begin (cs : List Frame) (w : World) (hF : Kn W [] w) :
    Goes Try.prog mn (Ext Vn) (HDq (Cx0 Sh)) (fun g w => ∃ pa sa sb sl T, (T.size = 22 ∧ T[4]? = some (.slice (some ⟨pa, 0, none⟩) 2 2) ∧ T[7]? = some (.slice (some ⟨sl, 0, none⟩) 2 2)) ∧ g = G (fAw T (.inRegion ops9a [4, 5, 6, 7, 8, 9, 10] :: .code (rt (rt body9)) :: [])) cs ∧ KnA W pa sa sb sl w) 20
      (G (fAw #[undef, undef, undef, undef, undef, undef, undef, undef, undef, undef, undef, undef, undef, undef, undef, undef, undef, undef, undef, undef, undef, undef] [.code body9]) cs) w := by
  simp only [fAw, ops9a, body9, inner, rt, lf, opsOf, Try.f9, Option.getD_some]
  refine Goes.step rfl (fun w hr => ?_)
  replace hF := (fun h r => Kn.rl h r) hF hr
  clear hr
  rw [stepG_seq]
  simp only [goes_go]
  refine ⟨hdq_idle _ _, ?_⟩
  refine Goes.step rfl (fun w hr => ?_)
  replace hF := (fun h r => Kn.rl h r) hF hr
  clear hr
  rw [stepG_region]
  simp only [goes_go, List.size_toArray, List.length_cons, List.length_nil, Nat.reduceAdd, Nat.zero_add, List.range, List.range.loop]
  refine ⟨hdq_idle _ _, ?_⟩
  refine Goes.step rfl (fun w hr => ?_)
  replace hF := (fun h r => Kn.rl h r) hF hr
  clear hr
  refine goes_oper_k rfl rfl (by k_ne) (fun K hK => ?_)
  go_simp
  refine hK _ _ ⟨?_, ?_⟩
  · rw [listed_nil (by simp [go_sem])]; exact hdq_idle _ _
  clear hK K
  try walk_nrm
  refine Goes.step rfl (fun w hr => ?_)
  replace hF := (fun h r => Kn.rl h r) hF hr
  clear hr
  rw [stepG_region_end]
  simp only [goes_go]
  refine ⟨hdq_idle _ _, ?_⟩
  refine Goes.step rfl (fun w hr => ?_)
  replace hF := (fun h r => Kn.rl h r) hF hr
  clear hr
  rw [stepG_seq]
  simp only [goes_go]
  refine ⟨hdq_idle _ _, ?_⟩
  refine Goes.step rfl (fun w hr => ?_)
  replace hF := (fun h r => Kn.rl h r) hF hr
  clear hr
  rw [stepG_region]
  simp only [goes_go, List.size_toArray, List.length_cons, List.length_nil, Nat.reduceAdd, Nat.zero_add, List.range, List.range.loop]
  refine ⟨hdq_idle _ _, ?_⟩
  refine Goes.step rfl (fun w hr => ?_)
  replace hF := (fun h r => Kn.rl h r) hF hr
  clear hr
  have hm := bI2 1 0
  have hm' := bI2E 1 0
  refine goes_oper_k rfl rfl (by k_ne) (fun K hK => ?_)
  go_simp
  refine hK _ _ ⟨?_, ?_⟩
  · rw [listed_nil (by simp [go_sem, *])]
    exact al_hd (by simp)
  clear hK K
  try walk_nrm
  clear hm hm'
  replace hF := hF.alloc (Obj.cells #[.int .i64 1, .int .i64 0] 3 (0, 0))
  generalize w.heap.size = pa at *
  generalize w.alloc (Obj.cells #[.int .i64 1, .int .i64 0] 3 (0, 0)) = w at *
  refine Goes.step rfl (fun w hr => ?_)
  replace hF := (fun h r => Kn.rl h r) hF hr
  clear hr
  have hm := bS2 strA strB
  have hm' := bS2E strA strB
  refine goes_oper_k rfl rfl (by k_ne) (fun K hK => ?_)
  go_simp
  refine hK _ _ ⟨?_, ?_⟩
  · rw [listed_nil (by simp [go_sem, *])]
    exact al_hd (by simp)
  clear hK K
  try walk_nrm
  clear hm hm'
  replace hF := hF.alloc (Obj.cells #[.string strA, .string strB] 9 (0, 0))
  generalize w.heap.size = sa at *
  generalize w.alloc (Obj.cells #[.string strA, .string strB] 9 (0, 0)) = w at *
  refine Goes.step rfl (fun w hr => ?_)
  replace hF := (fun h r => Kn.rl h r) hF hr
  clear hr
  have hm := bS1 strC
  have hm' := bS1E strC
  refine goes_oper_k rfl rfl (by k_ne) (fun K hK => ?_)
  go_simp
  refine hK _ _ ⟨?_, ?_⟩
  · rw [listed_nil (by simp [go_sem, *])]
    exact al_hd (by simp)
  clear hK K
  try walk_nrm
  clear hm hm'
  replace hF := hF.alloc (Obj.cells #[.string strC] 9 (0, 0))
  generalize w.heap.size = sb at *
  generalize w.alloc (Obj.cells #[.string strC] 9 (0, 0)) = w at *
  refine Goes.step rfl (fun w hr => ?_)
  replace hF := (fun h r => Kn.rl h r) hF hr
  clear hr
  have hm := bL2 (some ⟨sa, 0, none⟩) (some ⟨sb, 0, none⟩) 2 2 1 1
  have hm' := bL2E (some ⟨sa, 0, none⟩) (some ⟨sb, 0, none⟩) 2 2 1 1
  refine goes_oper_k rfl rfl (by k_ne) (fun K hK => ?_)
  go_simp
  refine hK _ _ ⟨?_, ?_⟩
  · rw [listed_nil (by simp [go_sem, *])]
    exact al_hd (by simp)
  clear hK K
  try walk_nrm
  clear hm hm'
  replace hF := hF.alloc (Obj.cells #[.slice (some ⟨sa, 0, none⟩) 2 2, .slice (some ⟨sb, 0, none⟩) 1 1] 38 (0, 0))
  generalize w.heap.size = sl at *
  generalize w.alloc (Obj.cells #[.slice (some ⟨sa, 0, none⟩) 2 2, .slice (some ⟨sb, 0, none⟩) 1 1] 38 (0, 0)) = w at *
  refine Goes.stop (fun w hr => ⟨pa, sa, sb, sl, _, ⟨?_, ?_, ?_⟩, rfl, hF.rl hr⟩) <;> rfl
end
end

/-! ### CwAwk2 -/
section
set_option linter.unusedSimpArgs false
open Go Go.Conc Go.RowKit Go.ConcR.Gen Cw

section
variable {Sh : Loc → Prop} {W : World} {mn : Bool} {Q : World → Prop}
set_option maxRecDepth 100000 in
set_option maxHeartbeats 2000000 in
/-- Through tasks, into sched.Run. -/
theorem a_run (hrl : ∀ w w', Q w → Ext Vn w w' → Q w') {pa sl kc : Nat} {Rs' : Value → World → Prop} (hRs : ∀ r w w', Rs' r w → Ext Vn w w' → Rs' r w') (cs : List Frame) (w : World) (hF : Q w) (T : Array Value) (hT : T.size = 22) (h4 : T[4]? = some (.slice (some ⟨pa, 0, none⟩) 2 2)) (h7 : T[7]? = some (.slice (some ⟨sl, 0, none⟩) 2 2))
    (hkc : CallsC Try.prog mn (Ext Vn) (HDq (Cx0 Sh)) 11 #[.slice (some ⟨sl, 0, none⟩) 2 2] kc w (fun r w' => Q w' ∧ Rs' r w')) :
    Goes Try.prog mn (Ext Vn) (HDq (Cx0 Sh)) (fun g w => ∃ r T', T'.size = 22 ∧ g = G (fRun (entryT (.slice (some ⟨pa, 0, none⟩) 2 2) r) [.code bodyM]) (fAw T' (.inRegion ops9a (5 :: [6, 7, 8, 9, 10]) :: .code (rt (rt body9)) :: []) :: cs) ∧ Q w ∧ Rs' r w) (10 + kc + 3)
      (G (fAw T (.inRegion ops9a [4, 5, 6, 7, 8, 9, 10] :: .code (rt (rt body9)) :: [])) cs) w := by
  obtain ⟨v0, v1, v2, v3, v4, v5, v6, v7, v8, v9, v10, v11, v12, v13, v14, v15, v16, v17, v18, v19, v20, v21, rfl⟩ := arr22 T hT
  simp only [List.getElem?_toArray, List.getElem?_cons_zero, List.getElem?_cons_succ, Option.some.injEq] at h4 h7
  subst h4
  subst h7
  simp only [fAw, ops9a, body9, inner, rt, lf, opsOf, Try.f9, Option.getD_some]
  refine Goes.call (hdq_terms (Cx0 Sh) Vn) (f := 11) (args := #[.tmp 7]) (ats := #[23]) rfl rfl (by k_ne) rfl (by simp only [List.map_toArray, List.map_cons, List.map_nil, Act.eval]; exact hkc) (fun r w hv => ?_)
  clear hF hkc
  obtain ⟨hF, hR⟩ := hv
  try walk_nrm
  refine Goes.step rfl (fun w hr => ?_)
  replace hF := hrl _ _ hF hr
  replace hR := hRs _ _ _ hR hr
  clear hr
  refine goes_call rfl rfl (by k_ne) rfl Try.func10 rfl rfl ⟨hdq_idle _ _, ?_⟩
  refine Goes.stop (fun w hr => ⟨r, #[v0, v1, v2, v3, .slice (some ⟨pa, 0, none⟩) 2 2, v5, v6, .slice (some ⟨sl, 0, none⟩) 2 2, r, v9, v10, v11, v12, v13, v14, v15, v16, v17, v18, v19, v20, v21], ?_, ?_, hrl _ _ hF hr, hRs _ _ _ hR hr⟩)
  · rfl
  · simp only [fRun, entryT, bodyM, Try.ntmps10, List.map_toArray, List.map_cons, List.map_nil, Act.eval, List.size_toArray, List.length_cons, List.length_nil, Nat.reduceAdd, Nat.reduceSub, Array.replicate_succ, Array.replicate_zero, List.push_toArray, List.append_toArray, List.nil_append, List.cons_append]
    rfl
theorem bR3 (i j k : Int) (x y z : ByteArray) (w : World) : (Instr.buildSlice 35 3 #[(0, .agg #[.int .i64 i, .string x]), (1, .agg #[.int .i64 j, .string y]), (2, .agg #[.int .i64 k, .string z])]).run Try.prog w = .ok (.slice (some ⟨w.heap.size, 0, none⟩) 3 3) (w.alloc (.cells #[.int .i64 i, .string x, .int .i64 j, .string y, .int .i64 k, .string z] 41)) := by
  obtain ⟨it, hit, h1, h2, _⟩ := reInfo
  refine run_buildSlice w _ _ 3 _ _ it _ (by kernel_rfl) hit h1 (by rw [h2]; omega) (by rw [h2]; omega) ?_
  rw [h2]
  kernel_rfl
theorem bR3E (i j k : Int) (x y z : ByteArray) (w : World) (es : Array Event) : (Instr.buildSlice 35 3 #[(0, .agg #[.int .i64 i, .string x]), (1, .agg #[.int .i64 j, .string y]), (2, .agg #[.int .i64 k, .string z])]).events Try.prog w es = es := by
  obtain ⟨it, hit, h1, h2, _⟩ := reInfo
  simp [Instr.buildSlice, go_sem, sizeOf, typeInfo, zeroValue, hit, h1, h2]
set_option maxRecDepth 100000 in
set_option maxHeartbeats 2000000 in
/-- Behind sched.Run, to the call of same. -/
theorem a_same {u : Value} (cs : List Frame) (w : World) (hF : Kn W [] w) (T : Array Value) (hT : T.size = 22) :
    Goes Try.prog mn (Ext Vn) (HDq (Cx0 Sh)) (fun g w => ∃ sb T, (T.size = 22 ∧ T[14]? = some (.bool true) ∧ T[15]? = some u ∧ T[19]? = some (.slice (some ⟨sb, 0, none⟩) 3 3)) ∧ g = G (fAw T (.inRegion ops9b [8, 9, 10] :: .code .ret :: [])) cs ∧ Kn W [(sb, Obj.cells #[.int .i64 1, .string strC, .int .i64 0, .string strA, .int .i64 0, .string strB] 41 (0, 0))] w) 30
      (G ((base 9).at (Act.put ⟨T, []⟩ ((ops9a[5]?).bind (·.dst)) (.tuple #[u, .int .i64 0])) (.inRegion ops9a [6, 7, 8, 9, 10] :: .code (rt (rt body9)) :: [])) cs) w := by
  obtain ⟨v0, v1, v2, v3, v4, v5, v6, v7, v8, v9, v10, v11, v12, v13, v14, v15, v16, v17, v18, v19, v20, v21, rfl⟩ := arr22 T hT
  simp only [fAw, ops9a, ops9b, body9, inner, rt, lf, opsOf, Try.f9, Option.getD_some]
  walk_nrm
  refine Goes.step rfl (fun w hr => ?_)
  replace hF := (fun h r => Kn.rl h r) hF hr
  clear hr
  refine goes_oper_k rfl rfl (by k_ne) (fun K hK => ?_)
  go_simp
  refine hK _ _ ⟨?_, ?_⟩
  · rw [listed_nil (by simp [go_sem])]; exact hdq_idle _ _
  clear hK K
  try walk_nrm
  refine Goes.step rfl (fun w hr => ?_)
  replace hF := (fun h r => Kn.rl h r) hF hr
  clear hr
  refine goes_oper_k rfl rfl (by k_ne) (fun K hK => ?_)
  go_simp
  refine hK _ _ ⟨?_, ?_⟩
  · rw [listed_nil (by simp [go_sem])]; exact hdq_idle _ _
  clear hK K
  try walk_nrm
  refine Goes.step rfl (fun w hr => ?_)
  replace hF := (fun h r => Kn.rl h r) hF hr
  clear hr
  refine goes_oper_k rfl rfl (by k_ne) (fun K hK => ?_)
  go_simp
  refine hK _ _ ⟨?_, ?_⟩
  · rw [listed_nil (by simp [go_sem])]; exact hdq_idle _ _
  clear hK K
  try walk_nrm
  refine Goes.step rfl (fun w hr => ?_)
  replace hF := (fun h r => Kn.rl h r) hF hr
  clear hr
  refine goes_oper_k rfl rfl (by k_ne) (fun K hK => ?_)
  go_simp
  refine hK _ _ ⟨?_, ?_⟩
  · rw [listed_nil (by simp [go_sem])]; exact hdq_idle _ _
  clear hK K
  try walk_nrm
  refine Goes.step rfl (fun w hr => ?_)
  replace hF := (fun h r => Kn.rl h r) hF hr
  clear hr
  refine goes_oper_k rfl rfl (by k_ne) (fun K hK => ?_)
  go_simp
  refine hK _ _ ⟨?_, ?_⟩
  · rw [listed_nil (by simp [go_sem])]; exact hdq_idle _ _
  clear hK K
  try walk_nrm
  refine Goes.step rfl (fun w hr => ?_)
  replace hF := (fun h r => Kn.rl h r) hF hr
  clear hr
  rw [stepG_region_end]
  simp only [goes_go]
  refine ⟨hdq_idle _ _, ?_⟩
  refine Goes.step rfl (fun w hr => ?_)
  replace hF := (fun h r => Kn.rl h r) hF hr
  clear hr
  rw [stepG_seq]
  simp only [goes_go]
  refine ⟨hdq_idle _ _, ?_⟩
  refine Goes.step rfl (fun w hr => ?_)
  replace hF := (fun h r => Kn.rl h r) hF hr
  clear hr
  rw [stepG_region]
  simp only [goes_go, List.size_toArray, List.length_cons, List.length_nil, Nat.reduceAdd, Nat.zero_add, List.range, List.range.loop]
  refine ⟨hdq_idle _ _, ?_⟩
  refine Goes.step rfl (fun w hr => ?_)
  replace hF := (fun h r => Kn.rl h r) hF hr
  clear hr
  refine goes_oper_k rfl rfl (by k_ne) (fun K hK => ?_)
  go_simp
  refine hK _ _ ⟨?_, ?_⟩
  · rw [listed_nil (by simp [go_sem])]; exact hdq_idle _ _
  clear hK K
  try walk_nrm
  refine Goes.step rfl (fun w hr => ?_)
  replace hF := (fun h r => Kn.rl h r) hF hr
  clear hr
  refine goes_oper_k rfl rfl (by k_ne) (fun K hK => ?_)
  go_simp
  refine hK _ _ ⟨?_, ?_⟩
  · rw [listed_nil (by simp [go_sem, *])]; exact hdq_idle _ _
  clear hK K
  try walk_nrm
  refine Goes.step rfl (fun w hr => ?_)
  replace hF := (fun h r => Kn.rl h r) hF hr
  clear hr
  refine goes_oper_k rfl rfl (by k_ne) (fun K hK => ?_)
  go_simp
  refine hK _ _ ⟨?_, ?_⟩
  · rw [listed_nil (by simp [go_sem])]; exact hdq_idle _ _
  clear hK K
  try walk_nrm
  refine Goes.step rfl (fun w hr => ?_)
  replace hF := (fun h r => Kn.rl h r) hF hr
  clear hr
  refine goes_oper_k rfl rfl (by k_ne) (fun K hK => ?_)
  go_simp
  refine hK _ _ ⟨?_, ?_⟩
  · rw [listed_nil (by simp [go_sem])]; exact hdq_idle _ _
  clear hK K
  try walk_nrm
  refine Goes.step rfl (fun w hr => ?_)
  replace hF := (fun h r => Kn.rl h r) hF hr
  clear hr
  have hm := bldR 1 strC
  have hm' := bldRE 1 strC
  refine goes_oper_k rfl rfl (by k_ne) (fun K hK => ?_)
  go_simp
  refine hK _ _ ⟨?_, ?_⟩
  · rw [listed_nil (by simp [go_sem, *])]; exact hdq_idle _ _
  clear hK K hm hm'
  try walk_nrm
  refine Goes.step rfl (fun w hr => ?_)
  replace hF := (fun h r => Kn.rl h r) hF hr
  clear hr
  have hm := bldR 0 strA
  have hm' := bldRE 0 strA
  refine goes_oper_k rfl rfl (by k_ne) (fun K hK => ?_)
  go_simp
  refine hK _ _ ⟨?_, ?_⟩
  · rw [listed_nil (by simp [go_sem, *])]; exact hdq_idle _ _
  clear hK K hm hm'
  try walk_nrm
  refine Goes.step rfl (fun w hr => ?_)
  replace hF := (fun h r => Kn.rl h r) hF hr
  clear hr
  have hm := bldR 0 strB
  have hm' := bldRE 0 strB
  refine goes_oper_k rfl rfl (by k_ne) (fun K hK => ?_)
  go_simp
  refine hK _ _ ⟨?_, ?_⟩
  · rw [listed_nil (by simp [go_sem, *])]; exact hdq_idle _ _
  clear hK K hm hm'
  try walk_nrm
  refine Goes.step rfl (fun w hr => ?_)
  replace hF := (fun h r => Kn.rl h r) hF hr
  clear hr
  have hm := bR3 1 0 0 strC strA strB
  have hm' := bR3E 1 0 0 strC strA strB
  refine goes_oper_k rfl rfl (by k_ne) (fun K hK => ?_)
  go_simp
  refine hK _ _ ⟨?_, ?_⟩
  · rw [listed_nil (by simp [go_sem, *])]
    exact al_hd (by simp)
  clear hK K
  try walk_nrm
  clear hm hm'
  replace hF := hF.alloc (Obj.cells #[.int .i64 1, .string strC, .int .i64 0, .string strA, .int .i64 0, .string strB] 41 (0, 0))
  generalize w.heap.size = sb at *
  generalize w.alloc (Obj.cells #[.int .i64 1, .string strC, .int .i64 0, .string strA, .int .i64 0, .string strB] 41 (0, 0)) = w at *
  refine Goes.stop (fun w hr => ⟨sb, _, ⟨?_, ?_, ?_, ?_⟩, rfl, hF.rl hr⟩) <;> rfl
set_option maxRecDepth 100000 in
set_option maxHeartbeats 2000000 in
/-- Through same, and out. -/
theorem a_out {w : World} (hrl : ∀ w w', Q w → Ext Vn w w' → Q w') {sb n c kc : Nat} {a : Option Addr} (hF : Q w) {b₀ : Frame} {a₀ : Act} {ops : Array Oper} {j : Nat} {rest : List Nat} {kk : List Item} (cs : List Frame) (T : Array Value) (hT : T.size = 22) (h14 : T[14]? = some (.bool true)) (h15 : T[15]? = some (.slice a n c)) (h19 : T[19]? = some (.slice (some ⟨sb, 0, none⟩) 3 3))
    (hkc : CallsC Try.prog mn (Ext Vn) (HDq (Cx0 Sh)) 12 #[.slice a n c, .slice (some ⟨sb, 0, none⟩) 3 3] kc w (fun r w' => r = .bool true ∧ Q w')) :
    Goes Try.prog mn (Ext Vn) (HDq (Cx0 Sh)) (fun g w => g = G (b₀.at (a₀.put ((ops[j]?).bind (·.dst)) (.bool true)) (.inRegion ops rest :: kk)) cs ∧ Q w) (20 + kc + 3)
      (G (fAw T (.inRegion ops9b [8, 9, 10] :: .code .ret :: [])) (b₀.at a₀ (.inRegion ops (j :: rest) :: kk) :: cs)) w := by
  obtain ⟨v0, v1, v2, v3, v4, v5, v6, v7, v8, v9, v10, v11, v12, v13, v14, v15, v16, v17, v18, v19, v20, v21, rfl⟩ := arr22 T hT
  simp only [List.getElem?_toArray, List.getElem?_cons_zero, List.getElem?_cons_succ, Option.some.injEq] at h14 h15 h19
  subst h14
  subst h15
  subst h19
  simp only [fAw, ops9b, body9, inner, rt, lf, opsOf, Try.f9, Option.getD_some]
  refine Goes.call (hdq_terms (Cx0 Sh) Vn) (f := 12) (args := #[.tmp 15, .tmp 19]) (ats := #[28, 35]) rfl rfl (by k_ne) rfl (by simp only [List.map_toArray, List.map_cons, List.map_nil, Act.eval]; exact hkc) (fun r w hv => ?_)
  clear hF hkc
  obtain ⟨rfl, hF⟩ := hv
  try walk_nrm
  refine Goes.step rfl (fun w hr => ?_)
  replace hF := (hrl _ _) hF hr
  clear hr
  refine goes_oper_k rfl rfl (by k_ne) (fun K hK => ?_)
  go_simp
  refine hK _ _ ⟨?_, ?_⟩
  · rw [listed_nil (by simp [go_sem])]; exact hdq_idle _ _
  clear hK K
  try walk_nrm
  refine Goes.step rfl (fun w hr => ?_)
  replace hF := (hrl _ _) hF hr
  clear hr
  refine goes_oper_k rfl rfl (by k_ne) (fun K hK => ?_)
  go_simp
  refine hK _ _ ⟨?_, ?_⟩
  · rw [listed_nil (by simp [go_sem])]; exact hdq_idle _ _
  clear hK K
  try walk_nrm
  refine Goes.step rfl (fun w hr => ?_)
  replace hF := (hrl _ _) hF hr
  clear hr
  rw [stepG_region_end]
  simp only [goes_go]
  refine ⟨hdq_idle _ _, ?_⟩
  refine Goes.step rfl (fun w hr => ?_)
  replace hF := (hrl _ _) hF hr
  clear hr
  rw [stepG_ret']
  simp only [goes_go]
  refine ⟨hdq_idle _ _, ?_⟩
  refine Goes.step rfl (fun w hr => ?_)
  replace hF := (hrl _ _) hF hr
  clear hr
  refine goes_leave1 rfl rfl Try.func9 rfl ⟨hdq_idle _ _, ?_⟩
  exact Goes.stop fun w hr => ⟨rfl, hrl _ _ hF hr⟩
end
end
end Go.Proofs.Ytggfcdhkgldbfaa
