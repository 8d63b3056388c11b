/-
  PARTS of a claim, merged by segs.py: CwSh1.
-/
import Derived.Test.YtggfcdhkgldbfaaDoorS33
import Derived.Test.YtggfcdhkgldbfaaDoorS34
namespace Go.Proofs.YtggfcdhkgldbfaaDoor
set_option linter.unusedSimpArgs false
set_option linter.unusedVariables false

/-! ### CwSh1 -/
section
set_option linter.unusedSimpArgs false
open Go Go.Conc Go.RowKit Go.ConcR.Gen Cw

/-- Its blocks but for the events. -/
structure RQ (W : World) (pv pl pr pp : Nat) (v : Nat) (left read : List Nat) (pend : List Bool) (w : World) : Prop where
  ext : Ext Vn W w
  lo : W.heap.size ≤ pv ∧ pv < pl ∧ pl < pr ∧ pr < pp
  hv : w.heap[pv]? = some (.cells #[.int .i64 v] 3 (0, 0))
  hl : w.heap[pl]? = some (.cells (ints left).toArray 35 (0, 0))
  hr : w.heap[pr]? = some (.cells (ints read).toArray 35 (0, 0))
  hp : w.heap[pp]? = some (.cells (pend.map Value.bool).toArray 36 (0, 0))
/-- .. with them. -/
structure RS (W : World) (pv pl pr pp pw : Nat) (s : Sim) (u : Value) (w : World) : Prop where
  q : RQ W pv pl pr pp s.v s.left s.read s.pend w
  low : pp < pw
  hw : w.heap[pw]? = some (.cells #[u] 37 (0, 0))
  row : w.ownsRow W.heap.size 40 2 u s.E.length (evCells s.E)
section
variable {W w w' : World} {pv pl pr pp pw v : Nat} {left read : List Nat} {pend : List Bool} {s : Sim} {u : Value}
theorem same_of {b : Nat} {o : Obj} (h : w.heap[b]? = some o) (r : Ext Vn w w') : w'.heap[b]? = some o := (r.same b (Array.getElem?_eq_some_iff.1 h).1 id).trans h
theorem RQ.rl (h : RQ W pv pl pr pp v left read pend w) (r : Ext Vn w w') : RQ W pv pl pr pp v left read pend w' :=
  ⟨h.ext.trans r, h.lo, same_of h.hv r, same_of h.hl r, same_of h.hr r, same_of h.hp r⟩
theorem RS.rl (h : RS W pv pl pr pp pw s u w) (r : Ext Vn w w') : RS W pv pl pr pp pw s u w' :=
  ⟨h.q.rl r, h.low, same_of h.hw r, ownsRow_ext h.row r fun _ _ => id⟩
theorem RQ.cv (h : RQ W pv pl pr pp v left read pend w) : w.cell? ⟨pv, 0, none⟩ = some (.int .i64 v) := by simp [World.cell?, h.hv]
theorem RQ.cl (h : RQ W pv pl pr pp v left read pend w) {k x : Nat} (hk : left[k]? = some x) : w.cell? ⟨pl, k, none⟩ = some (.int .i64 x) := by simp [World.cell?, h.hl, ints, hk]
theorem RQ.cr (h : RQ W pv pl pr pp v left read pend w) {k x : Nat} (hk : read[k]? = some x) : w.cell? ⟨pr, k, none⟩ = some (.int .i64 x) := by simp [World.cell?, h.hr, ints, hk]
theorem RQ.cp (h : RQ W pv pl pr pp v left read pend w) {k : Nat} {b : Bool} (hk : pend[k]? = some b) : w.cell? ⟨pp, k, none⟩ = some (.bool b) := by simp [World.cell?, h.hp, hk]
theorem RQ.zv (h : RQ W pv pl pr pp v left read pend w) (k : Nat) : w.frozen? ⟨pv, k, none⟩ = false := by simp [World.frozen?, h.hv]
theorem RQ.zl (h : RQ W pv pl pr pp v left read pend w) (k : Nat) : w.frozen? ⟨pl, k, none⟩ = false := by simp [World.frozen?, h.hl]
theorem RQ.zr (h : RQ W pv pl pr pp v left read pend w) (k : Nat) : w.frozen? ⟨pr, k, none⟩ = false := by simp [World.frozen?, h.hr]
theorem RQ.zp (h : RQ W pv pl pr pp v left read pend w) (k : Nat) : w.frozen? ⟨pp, k, none⟩ = false := by simp [World.frozen?, h.hp]
theorem heap_setCell_self (w : World) (b k : Nat) (v : Value) {cs : Array Value} {ty : TypeId} {z : Nat × Nat} (h : w.heap[b]? = some (.cells cs ty z)) : (w.setCell ⟨b, k, none⟩ v).heap[b]? = some (.cells (cs.set! k v) ty z) := by
  simp only [World.setCell, Array.getElem?_modify, if_true, h, Option.map_some]
  rfl
theorem ext_set {b k : Nat} {v : Value} (h : Ext Vn W w) (hb : W.heap.size ≤ b) : Ext Vn W (w.setCell ⟨b, k, none⟩ v) :=
  ⟨by rw [size_setCell']; exact h.size, fun x hx _ => (heap_setCell_ne w _ _ (by show x ≠ b; omega)).trans (h.same x hx id), h.tape, h.os, h.output⟩
theorem RQ.setv (h : RQ W pv pl pr pp v left read pend w) (x : Nat) : RQ W pv pl pr pp x left read pend (w.setCell ⟨pv, 0, none⟩ (.int .i64 (x : Nat))) := by
  have hl := h.lo
  have hs := fun {b : Nat} (hb : b ≠ pv) => heap_setCell_ne w ⟨pv, 0, none⟩ (.int .i64 (x : Nat)) hb
  refine ⟨ext_set h.ext (by omega), h.lo, heap_setCell_self w pv 0 _ h.hv, (hs (by omega)).trans h.hl, (hs (by omega)).trans h.hr, (hs (by omega)).trans h.hp⟩
theorem RQ.setl (h : RQ W pv pl pr pp v left read pend w) (k x : Nat) : RQ W pv pl pr pp v (left.set k x) read pend (w.setCell ⟨pl, k, none⟩ (.int .i64 (x : Nat))) := by
  have hl := h.lo
  have hs := fun {b : Nat} (hb : b ≠ pl) => heap_setCell_ne w ⟨pl, k, none⟩ (.int .i64 (x : Nat)) hb
  refine ⟨ext_set h.ext (by omega), h.lo, (hs (by omega)).trans h.hv, (heap_setCell_self w pl k _ h.hl).trans ?_, (hs (by omega)).trans h.hr, (hs (by omega)).trans h.hp⟩
  simp [ints, List.map_set]
theorem RQ.setr (h : RQ W pv pl pr pp v left read pend w) (k x : Nat) : RQ W pv pl pr pp v left (read.set k x) pend (w.setCell ⟨pr, k, none⟩ (.int .i64 (x : Nat))) := by
  have hl := h.lo
  have hs := fun {b : Nat} (hb : b ≠ pr) => heap_setCell_ne w ⟨pr, k, none⟩ (.int .i64 (x : Nat)) hb
  refine ⟨ext_set h.ext (by omega), h.lo, (hs (by omega)).trans h.hv, (hs (by omega)).trans h.hl, (heap_setCell_self w pr k _ h.hr).trans ?_, (hs (by omega)).trans h.hp⟩
  simp [ints, List.map_set]
theorem RQ.setp (h : RQ W pv pl pr pp v left read pend w) (k : Nat) (b : Bool) : RQ W pv pl pr pp v left read (pend.set k b) (w.setCell ⟨pp, k, none⟩ (.bool b)) := by
  have hl := h.lo
  have hs := fun {x : Nat} (hb : x ≠ pp) => heap_setCell_ne w ⟨pp, k, none⟩ (.bool b) hb
  refine ⟨ext_set h.ext (by omega), h.lo, (hs (by omega)).trans h.hv, (hs (by omega)).trans h.hl, (hs (by omega)).trans h.hr, (heap_setCell_self w pp k _ h.hp).trans ?_⟩
  simp [List.map_set]
/-- The events stand apart. -/
theorem own_ne_ty {b : Nat} {cs : Array Value} {ty e : TypeId} {z n k : Nat} {l : List Value} (hne : ty ≠ e) (hb : w.heap[b]? = some (.cells cs ty (0, 0))) (h : w.ownsRow n e z u k l) {g : Nat} (hg : u.ownBlock = some g) : g ≠ b := by
  rintro rfl
  rcases h.2 with ⟨rfl, _⟩ | ⟨g', cap, cur, rfl, _, hgg, _⟩
  · simp [Value.ownBlock] at hg
  · simp only [Value.ownBlock, Option.some.injEq] at hg
    subst hg
    rw [hb] at hgg
    simp at hgg
    exact hne hgg.2
theorem row_set {b k : Nat} {x : Value} {cs : Array Value} {ty e : TypeId} {z n m : Nat} {l : List Value} (hne : ty ≠ e) (hb : w.heap[b]? = some (.cells cs ty (0, 0))) (h : w.ownsRow n e z u m l) : (w.setCell ⟨b, k, none⟩ x).ownsRow n e z u m l := by
  have hn := fun {g : Nat} (hg : u.ownBlock = some g) => own_ne_ty hne hb h hg
  refine ⟨h.1, ?_⟩
  rcases h.2 with hh | ⟨g, cap, cur, rfl, hlo, hgg, rest⟩
  · exact .inl hh
  · exact .inr ⟨g, cap, cur, rfl, hlo, (heap_setCell_ne w ⟨b, k, none⟩ x (by have := hn (g := g) rfl; exact this)).trans hgg, rest⟩
end
theorem own_sl {w : World} {N k n : Nat} {ty : TypeId} {v : Value} {l : List Value} (h : w.ownsRow N ty k v n l) : ∃ a c, v = .slice a n c := by
  rcases h.2 with ⟨rfl, h0⟩ | ⟨g, cap, cur, rfl, _⟩
  · exact ⟨none, 0, by rw [h0]⟩
  · exact ⟨_, _, rfl⟩
theorem tyne1 : (3 : TypeId) ≠ 40 := by decide
theorem tyne2 : (35 : TypeId) ≠ 40 := by decide
theorem tyne3 : (36 : TypeId) ≠ 40 := by decide
theorem tyne4 : (37 : TypeId) ≠ 40 := by decide
section
variable {W w w' : World} {pv pl pr pp pw : Nat} {s : Sim} {u : Value}
theorem RS.setv (h : RS W pv pl pr pp pw s u w) (x : Nat) : RS W pv pl pr pp pw { s with v := x } u (w.setCell ⟨pv, 0, none⟩ (.int .i64 (x : Nat))) := by
  have hl := h.q.lo
  have hlw := h.low
  exact ⟨h.q.setv x, h.low, (heap_setCell_ne w ⟨pv, 0, none⟩ _ (by show pw ≠ pv; omega)).trans h.hw, row_set tyne1 h.q.hv h.row⟩
theorem RS.setl (h : RS W pv pl pr pp pw s u w) (k x : Nat) : RS W pv pl pr pp pw { s with left := s.left.set k x } u (w.setCell ⟨pl, k, none⟩ (.int .i64 (x : Nat))) := by
  have hl := h.q.lo
  have hlw := h.low
  exact ⟨h.q.setl k x, h.low, (heap_setCell_ne w ⟨pl, k, none⟩ _ (by show pw ≠ pl; omega)).trans h.hw, row_set tyne2 h.q.hl h.row⟩
theorem RS.setr (h : RS W pv pl pr pp pw s u w) (k x : Nat) : RS W pv pl pr pp pw { s with read := s.read.set k x } u (w.setCell ⟨pr, k, none⟩ (.int .i64 (x : Nat))) := by
  have hl := h.q.lo
  have hlw := h.low
  exact ⟨h.q.setr k x, h.low, (heap_setCell_ne w ⟨pr, k, none⟩ _ (by show pw ≠ pr; omega)).trans h.hw, row_set tyne2 h.q.hr h.row⟩
theorem RS.setp (h : RS W pv pl pr pp pw s u w) (k : Nat) (b : Bool) : RS W pv pl pr pp pw { s with pend := s.pend.set k b } u (w.setCell ⟨pp, k, none⟩ (.bool b)) := by
  have hl := h.q.lo
  have hlw := h.low
  exact ⟨h.q.setp k b, h.low, (heap_setCell_ne w ⟨pp, k, none⟩ _ (by show pw ≠ pp; omega)).trans h.hw, row_set tyne3 h.q.hp h.row⟩
/-- The row has grown, and then its header. -/
theorem RS.cw (h : RS W pv pl pr pp pw s u w) : w.cell? ⟨pw, 0, none⟩ = some u := by simp [World.cell?, h.hw]
theorem RS.zw (h : RS W pv pl pr pp pw s u w) (k : Nat) : w.frozen? ⟨pw, k, none⟩ = false := by simp [World.frozen?, h.hw]
/-- .. the blocks but for the row. -/
structure RB (W : World) (pv pl pr pp pw : Nat) (s : Sim) (u : Value) (w : World) : Prop where
  q : RQ W pv pl pr pp s.v s.left s.read s.pend w
  low : pp < pw
  hw : w.heap[pw]? = some (.cells #[u] 37 (0, 0))
theorem RS.b (h : RS W pv pl pr pp pw s u w) : RB W pv pl pr pp pw s u w := ⟨h.q, h.low, h.hw⟩
theorem RB.rl (h : RB W pv pl pr pp pw s u w) (r : Ext Vn w w') : RB W pv pl pr pp pw s u w' := ⟨h.q.rl r, h.low, same_of h.hw r⟩
theorem RB.cw (h : RB W pv pl pr pp pw s u w) : w.cell? ⟨pw, 0, none⟩ = some u := by simp [World.cell?, h.hw]
theorem RB.zw (h : RB W pv pl pr pp pw s u w) (k : Nat) : w.frozen? ⟨pw, k, none⟩ = false := by simp [World.frozen?, h.hw]
theorem RB.grown (h : RS W pv pl pr pp pw s u w) {w₁ : World} {v' : Value} {k : Nat} {l : List Value} (r : Ext Vn w w₁) (hg : w₁.grownBy w' u.ownBlock) (hE : Ext Vn W w' ∧ w'.ownsRow W.heap.size 40 2 v' k l) : RB W pv pl pr pp pw s u w' ∧ (Ext Vn W w' ∧ w'.ownsRow W.heap.size 40 2 v' k l) := by
  have h₁ := h.rl r
  have kp : ∀ {b : Nat} {cs : Array Value} {ty : TypeId}, ty ≠ 40 → w₁.heap[b]? = some (.cells cs ty (0, 0)) → w'.heap[b]? = some (.cells cs ty (0, 0)) := fun hne hb => by
    rw [hg.block _ (Array.getElem?_eq_some_iff.1 hb).1 fun e => own_ne_ty hne hb h₁.row e.symm rfl]
    exact hb
  exact ⟨⟨⟨hE.1, h₁.q.lo, kp tyne1 h₁.q.hv, kp tyne2 h₁.q.hl, kp tyne2 h₁.q.hr, kp tyne3 h₁.q.hp⟩, h₁.low, kp tyne4 h₁.hw⟩, hE⟩
theorem RB.setw (h : RB W pv pl pr pp pw s u w) {v' : Value} {E' : List (Int × ByteArray)} (hE : w.ownsRow W.heap.size 40 2 v' E'.length (evCells E')) : RS W pv pl pr pp pw { s with E := E' } v' (w.setCell ⟨pw, 0, none⟩ v') := by
  have hl := h.q.lo
  have hlw := h.low
  have hs := fun {x : Nat} (hb : x ≠ pw) => heap_setCell_ne w ⟨pw, 0, none⟩ v' hb
  exact ⟨⟨ext_set h.q.ext (by omega), h.q.lo, (hs (by omega)).trans h.q.hv, (hs (by omega)).trans h.q.hl, (hs (by omega)).trans h.q.hr, (hs (by omega)).trans h.q.hp⟩, h.low, heap_setCell_self w pw 0 _ h.hw, row_set tyne4 h.hw hE⟩
end
theorem arrG38 (T : Array Value) (h : T.size = 38) : T = #[gv T 0, gv T 1, gv T 2, gv T 3, gv T 4, gv T 5, gv T 6, gv T 7, gv T 8, gv T 9, gv T 10, gv T 11, gv T 12, gv T 13, gv T 14, gv T 15, gv T 16, gv T 17, gv T 18, gv T 19, gv T 20, gv T 21, gv T 22, gv T 23, gv T 24, gv T 25, gv T 26, gv T 27, gv T 28, gv T 29, gv T 30, gv T 31, gv T 32, gv T 33, gv T 34, gv T 35, gv T 36, gv T 37] := (arr_eq T 38 h).trans (by rfl)
theorem iaE36 (b t : Nat) (ht : (t : Int) < 3) (w : World) (es : Array Event) : (Instr.indexAt 36 (pb b) (.int .i64 t)).events Tryd.prog w es = es := by
  simp [Instr.indexAt, go_sem, run_underlying Tryd.underlying36, asIntOf, ht]
  try (intro h; omega)
theorem iaE35 (b t : Nat) (ht : (t : Int) < 3) (w : World) (es : Array Event) : (Instr.indexAt 35 (pb b) (.int .i64 t)).events Tryd.prog w es = es := by
  simp [Instr.indexAt, go_sem, run_underlying Tryd.underlying35, asIntOf, ht]
  try (intro h; omega)
theorem callsC_mono {P : Program} {main : Bool} {R : World → World → Prop} {D : World → World → Array Event → Prop} {f : FuncId} {args : Array Value} {n m : Nat} {w : World} {Post : Value → World → Prop} (h : CallsC P main R D f args n w Post) (hm : n ≤ m) : CallsC P main R D f args m w Post := by
  obtain ⟨fn, c, h1, h2, h3, h4⟩ := h
  exact ⟨fn, c, h1, h2, h3, wpC_more h4 hm⟩
theorem ita_upto : ∀ (N : Nat), N ≤ 100 → ∃ kc, ∀ (n : Nat), n < N → ∀ (main : Bool) (R : World → World → Prop) (D : World → World → Array Event → Prop) (_ : Terms R D) (Q : World → Prop) (_ : ∀ w w', Q w → R w w' → Q w') (w : World), Q w → CallsC Tryd.prog main R D 8 #[.int .i64 n] kc w (fun r w' => r = .string (itoaB n) ∧ Q w')
  | 0, _ => ⟨0, fun n hn => by omega⟩
  | N + 1, hN => by
    obtain ⟨k1, h1⟩ := ita_upto N (by omega)
    obtain ⟨k2, h2⟩ := ita_spec N (by omega)
    refine ⟨max k1 k2, fun n hn main R D T Q hQ w hw => ?_⟩
    by_cases e : n = N
    · subst e
      exact callsC_mono (h2 main R D T Q hQ w hw) (by omega)
    · exact callsC_mono (h1 n (by omega) main R D T Q hQ w hw) (by omega)
noncomputable def body7 : Code := Tryd.f7.body.getD .skip
noncomputable def cd77 : Code := rt (rt (rt (rt (rt body7))))
noncomputable def ops77 : Array Oper := opsOf (lf cd77)
theorem enum77 : enum .any ops77 8 (Array.replicate 8 false) = [[0, 1, 2, 3, 4, 5, 6, 7], [0, 2, 1, 3, 4, 5, 6, 7], [0, 2, 3, 1, 4, 5, 6, 7], [1, 0, 2, 3, 4, 5, 6, 7], [1, 2, 0, 3, 4, 5, 6, 7], [1, 2, 3, 0, 4, 5, 6, 7], [1, 2, 3, 4, 0, 5, 6, 7], [1, 2, 3, 4, 5, 0, 6, 7], [2, 0, 1, 3, 4, 5, 6, 7], [2, 0, 3, 1, 4, 5, 6, 7], [2, 1, 0, 3, 4, 5, 6, 7], [2, 1, 3, 0, 4, 5, 6, 7], [2, 1, 3, 4, 0, 5, 6, 7], [2, 1, 3, 4, 5, 0, 6, 7], [2, 3, 0, 1, 4, 5, 6, 7], [2, 3, 1, 0, 4, 5, 6, 7], [2, 3, 1, 4, 0, 5, 6, 7], [2, 3, 1, 4, 5, 0, 6, 7]] := by kernel_rfl
/-- .. and a block of news. -/
structure RN (W : World) (pv pl pr pp pw nb : Nat) (s : Sim) (u : Value) (i : Int) (x : ByteArray) (w : World) : Prop where
  s : RS W pv pl pr pp pw s u w
  nlo : W.heap.size ≤ nb
  hn : w.heap[nb]? = some (.cells #[.int .i64 i, .string x] 40 (0, 0))
theorem RN.rl {W w w' : World} {pv pl pr pp pw nb : Nat} {s : Sim} {u : Value} {i : Int} {x : ByteArray} (h : RN W pv pl pr pp pw nb s u i x w) (r : Ext Vn w w') : RN W pv pl pr pp pw nb s u i x w' := ⟨h.s.rl r, h.nlo, same_of h.hn r⟩
theorem rn_new {W w : World} {pv pl pr pp pw : Nat} {s : Sim} {u : Value} (h : RS W pv pl pr pp pw s u w) (i : Int) (x : ByteArray) : ∃ nb wz, w.alloc (.cells #[.int .i64 i, .string x] 40) = wz ∧ w.heap.size = nb ∧ RN W pv pl pr pp pw nb s u i x wz :=
  ⟨_, _, rfl, rfl, h.rl (Ext.alloc Vn w _), h.q.ext.size, heap_alloc_new w _⟩
theorem RN.news {W w : World} {pv pl pr pp pw nb : Nat} {s : Sim} {u : Value} {i : Int} {x : ByteArray} (h : RN W pv pl pr pp pw nb s u i x w) : ∀ (j : Nat) (v : Value), [Value.int .i64 i, .string x][j]? = some v → w.cell? ((⟨nb, 0, none⟩ : Addr).add j) = some v := by
  intro j v hv
  have e : (⟨nb, 0, none⟩ : Addr).add j = ⟨nb, j, none⟩ := by
    rcases Nat.eq_zero_or_pos j with rfl | hj
    · simp [Addr.add]
    · simp [Addr.add, Nat.ne_of_gt hj]
  rw [e]
  unfold World.cell?
  simp only [h.hn]
  simpa using hv
/-- .. and the row grown, its header not yet. -/
structure RG7 (W : World) (pv pl pr pp pw : Nat) (s : Sim) (u v' : Value) (E' : List (Int × ByteArray)) (w : World) : Prop where
  b : RB W pv pl pr pp pw s u w
  row : w.ownsRow W.heap.size 40 2 v' E'.length (evCells E')
theorem RG7.rl {W w w' : World} {pv pl pr pp pw : Nat} {s : Sim} {u v' : Value} {E' : List (Int × ByteArray)} (h : RG7 W pv pl pr pp pw s u v' E' w) (r : Ext Vn w w') : RG7 W pv pl pr pp pw s u v' E' w' := ⟨h.b.rl r, ownsRow_ext h.row r fun _ _ => id⟩
set_option maxRecDepth 100000 in
set_option maxHeartbeats 16000000 in
theorem c_sh7 {Sh : Loc → Prop} {W : World} {main : Bool} (hS : ShOk Sh W) {pv pl pr pp pw t : Nat} :
    ∃ k, ∀ (Q : Exit → Act → World → Prop) (T : Array Value) (s : Sim) (u : Value) (w : World), s.v < 100 → s.E.length < 1000 → T.size = 38 → T[0]? = some (.int .i64 t) → T[3]? = some (pb pv) → T[5]? = some (pb pw) → RS W pv pl pr pp pw s u w →
      (∀ T' u' w', T'.size = 38 → RS W pv pl pr pp pw { s with E := s.E ++ [((t : Int), itoaB s.v)] } u' w' → Q .normal ⟨T', []⟩ w') →
      (lf cd77).wpC Tryd.prog main (Ext Vn) (HDq (Cx0 Sh)) 7 k Q ⟨T, []⟩ w := by
  obtain ⟨it, hit, hz1, hz2, hz3⟩ := reInfo
  obtain ⟨kc, hkc⟩ := ita_upto 100 (Nat.le_refl _)
  refine ⟨(kc + 60) + 1, fun Q T s u w hv98 hE1000 hT h0 h3 h5 hF hQ => ?_⟩
  rw [arrG38 T hT]
  simp only [gv_of h0, gv_of h3, gv_of h5]
  have hs8 : ops77.size = 8 := by kernel_rfl
  show (Code.region 7 ops77 true).wpC _ _ _ _ _ _ _ _ _
  refine wpC_region_draw (lets0 Sh) fun w₁ hR t' => ?_
  have hF1 := (hF.rl hR).rl (draw_ext w₁)
  clear hF hR
  have hF := hF1
  clear hF1
  generalize ({ w₁ with drawn := w₁.drawn + 1 } : World) = w' at *
  have hS7 := sched_in ops77 t'
  rw [hs8, enum77] at hS7
  generalize Region.schedule (Tryd.prog.follows .mixedOrders) ops77 _ = S at hS7
  replace hS7 : S = [0, 1, 2, 3, 4, 5, 6, 7] ∨ S = [0, 2, 1, 3, 4, 5, 6, 7] ∨ S = [0, 2, 3, 1, 4, 5, 6, 7] ∨ S = [1, 0, 2, 3, 4, 5, 6, 7] ∨ S = [1, 2, 0, 3, 4, 5, 6, 7] ∨ S = [1, 2, 3, 0, 4, 5, 6, 7] ∨ S = [1, 2, 3, 4, 0, 5, 6, 7] ∨ S = [1, 2, 3, 4, 5, 0, 6, 7] ∨ S = [2, 0, 1, 3, 4, 5, 6, 7] ∨ S = [2, 0, 3, 1, 4, 5, 6, 7] ∨ S = [2, 1, 0, 3, 4, 5, 6, 7] ∨ S = [2, 1, 3, 0, 4, 5, 6, 7] ∨ S = [2, 1, 3, 4, 0, 5, 6, 7] ∨ S = [2, 1, 3, 4, 5, 0, 6, 7] ∨ S = [2, 3, 0, 1, 4, 5, 6, 7] ∨ S = [2, 3, 1, 0, 4, 5, 6, 7] ∨ S = [2, 3, 1, 4, 0, 5, 6, 7] ∨ S = [2, 3, 1, 4, 5, 0, 6, 7] := by simpa only [List.mem_cons, List.not_mem_nil, or_false] using hS7
  simp only [ops77, cd77, body7, opsOf, rt, lf, Tryd.f7, Option.getD_some]
  rcases hS7 with rfl | rfl | rfl | rfl | rfl | rfl | rfl | rfl | rfl | rfl | rfl | rfl | rfl | rfl | rfl | rfl | rfl | rfl
  · apply opsC_more
    · co_opw RS.rl hF (have hc := hF.cw) (refine rd_own hS (by have := hF.q.lo; have := hF.low; show _ ≤ pw; omega) (block_of_cell hc) (fun e he => ?_); have hm := mem_listed he; simp [go_sem, *] at hm; exact hm)
      clear hc
      co_op RS.rl hF (co_quiet (TT Sh))
      co_opw RS.rl hF (have hc := hF.q.cv) (refine rd_own hS (by have := hF.q.lo; show _ ≤ pv; omega) (block_of_cell hc) (fun e he => ?_); have hm := mem_listed he; simp [go_sem, *] at hm; exact hm)
      clear hc
      co_apply opsC_call (TT Sh) (f := 8) (args := #[.tmp 33]) (ats := #[3]) (by rfl) (by rfl) (by rfl) (by simp only [List.map_toArray, List.map_cons, List.map_nil, Act.eval]; exact hkc s.v (by omega) main _ _ (TT Sh) (RS W pv pl pr pp pw s u) (fun _ _ h r => h.rl r) _ hF)
      rintro v w' ⟨rfl, hF⟩
      try walk_nrm
      co_opw RS.rl hF (have hb := bldR (t : Int) (itoaB s.v); have hb' := bldRE (t : Int) (itoaB s.v)) (rw [listed_nil (by simp [go_sem, *])]; exact Terms.idle (TT Sh) _)
      clear hb hb'
      co_opw RS.rl hF (have hb := blsR (t : Int) (itoaB s.v); have hb' := blsRE (t : Int) (itoaB s.v)) (rw [listed_nil (by simp [go_sem, *])]; exact al_hd (by simp))
      clear hb hb'
      obtain ⟨nb, wz, hwz, hsz, hK⟩ := rn_new hF (t : Int) (itoaB s.v)
      rw [hwz, hsz]
      clear hwz hsz hF
      have hF := hK
      clear hK
      co_apply opsC_of_opC (TT Sh) (opC_append hS rfl rfl (.tmp 31) (.tmp 36) 37 rfl (by kernel_rfl) hit hz1 hz2 hz3 (by rfl) (by omega) (by rfl) (by rfl) (by omega) (news := [.int .i64 (t : Int), .string (itoaB s.v)]) (by rfl) (by simp [Value.oneCell']) (by simp only [maxLen]; omega) (by omega) ⟨hF.s.q.ext, hF.s.row⟩ hF.news hF.nlo (fun v' w₁ w' r hg hE => ?_))
      obtain ⟨hB, hE'⟩ := RB.grown hF.s r hg hE
      have hF2 : RG7 W pv pl pr pp pw s u v' (s.E ++ [((t : Int), itoaB s.v)]) w' := ⟨hB, by rw [List.length_append, evCells_add]; exact hE'.2⟩
      clear hF hB hE hE' hg r
      obtain ⟨sa, sc, hv'⟩ := own_sl hF2.row
      simp only [List.length_append, List.length_cons, List.length_nil, Nat.zero_add] at hv'
      have hF := hF2
      rw [hv'] at hF
      clear hF2
      try walk_nrm
      simp only [hv']
      clear hv'
      co_opw RG7.rl hF (have hc := hF.b.cw; have hz := hF.b.zw 0) (refine wr_own hS (by have := hF.b.q.lo; have := hF.b.low; show _ ≤ pw; omega) (block_of_cell hc) (fun e he => ?_); have hm := mem_listed he; simp [go_sem, storedEv, events_store_slice, *] at hm; exact hm)
      clear hc hz
      have hF2 := hF.b.setw hF.row
      clear hF
      have hF := hF2
      clear hF2
      co_apply opsC_nil (TT Sh)
      exact hQ _ _ _ (by rfl) hF
    · omega
  · apply opsC_more
    · co_opw RS.rl hF (have hc := hF.cw) (refine rd_own hS (by have := hF.q.lo; have := hF.low; show _ ≤ pw; omega) (block_of_cell hc) (fun e he => ?_); have hm := mem_listed he; simp [go_sem, *] at hm; exact hm)
      clear hc
      co_opw RS.rl hF (have hc := hF.q.cv) (refine rd_own hS (by have := hF.q.lo; show _ ≤ pv; omega) (block_of_cell hc) (fun e he => ?_); have hm := mem_listed he; simp [go_sem, *] at hm; exact hm)
      clear hc
      co_op RS.rl hF (co_quiet (TT Sh))
      co_apply opsC_call (TT Sh) (f := 8) (args := #[.tmp 33]) (ats := #[3]) (by rfl) (by rfl) (by rfl) (by simp only [List.map_toArray, List.map_cons, List.map_nil, Act.eval]; exact hkc s.v (by omega) main _ _ (TT Sh) (RS W pv pl pr pp pw s u) (fun _ _ h r => h.rl r) _ hF)
      rintro v w' ⟨rfl, hF⟩
      try walk_nrm
      co_opw RS.rl hF (have hb := bldR (t : Int) (itoaB s.v); have hb' := bldRE (t : Int) (itoaB s.v)) (rw [listed_nil (by simp [go_sem, *])]; exact Terms.idle (TT Sh) _)
      clear hb hb'
      co_opw RS.rl hF (have hb := blsR (t : Int) (itoaB s.v); have hb' := blsRE (t : Int) (itoaB s.v)) (rw [listed_nil (by simp [go_sem, *])]; exact al_hd (by simp))
      clear hb hb'
      obtain ⟨nb, wz, hwz, hsz, hK⟩ := rn_new hF (t : Int) (itoaB s.v)
      rw [hwz, hsz]
      clear hwz hsz hF
      have hF := hK
      clear hK
      co_apply opsC_of_opC (TT Sh) (opC_append hS rfl rfl (.tmp 31) (.tmp 36) 37 rfl (by kernel_rfl) hit hz1 hz2 hz3 (by rfl) (by omega) (by rfl) (by rfl) (by omega) (news := [.int .i64 (t : Int), .string (itoaB s.v)]) (by rfl) (by simp [Value.oneCell']) (by simp only [maxLen]; omega) (by omega) ⟨hF.s.q.ext, hF.s.row⟩ hF.news hF.nlo (fun v' w₁ w' r hg hE => ?_))
      obtain ⟨hB, hE'⟩ := RB.grown hF.s r hg hE
      have hF2 : RG7 W pv pl pr pp pw s u v' (s.E ++ [((t : Int), itoaB s.v)]) w' := ⟨hB, by rw [List.length_append, evCells_add]; exact hE'.2⟩
      clear hF hB hE hE' hg r
      obtain ⟨sa, sc, hv'⟩ := own_sl hF2.row
      simp only [List.length_append, List.length_cons, List.length_nil, Nat.zero_add] at hv'
      have hF := hF2
      rw [hv'] at hF
      clear hF2
      try walk_nrm
      simp only [hv']
      clear hv'
      co_opw RG7.rl hF (have hc := hF.b.cw; have hz := hF.b.zw 0) (refine wr_own hS (by have := hF.b.q.lo; have := hF.b.low; show _ ≤ pw; omega) (block_of_cell hc) (fun e he => ?_); have hm := mem_listed he; simp [go_sem, storedEv, events_store_slice, *] at hm; exact hm)
      clear hc hz
      have hF2 := hF.b.setw hF.row
      clear hF
      have hF := hF2
      clear hF2
      co_apply opsC_nil (TT Sh)
      exact hQ _ _ _ (by rfl) hF
    · omega
  · apply opsC_more
    · co_opw RS.rl hF (have hc := hF.cw) (refine rd_own hS (by have := hF.q.lo; have := hF.low; show _ ≤ pw; omega) (block_of_cell hc) (fun e he => ?_); have hm := mem_listed he; simp [go_sem, *] at hm; exact hm)
      clear hc
      co_opw RS.rl hF (have hc := hF.q.cv) (refine rd_own hS (by have := hF.q.lo; show _ ≤ pv; omega) (block_of_cell hc) (fun e he => ?_); have hm := mem_listed he; simp [go_sem, *] at hm; exact hm)
      clear hc
      co_apply opsC_call (TT Sh) (f := 8) (args := #[.tmp 33]) (ats := #[3]) (by rfl) (by rfl) (by rfl) (by simp only [List.map_toArray, List.map_cons, List.map_nil, Act.eval]; exact hkc s.v (by omega) main _ _ (TT Sh) (RS W pv pl pr pp pw s u) (fun _ _ h r => h.rl r) _ hF)
      rintro v w' ⟨rfl, hF⟩
      try walk_nrm
      co_op RS.rl hF (co_quiet (TT Sh))
      co_opw RS.rl hF (have hb := bldR (t : Int) (itoaB s.v); have hb' := bldRE (t : Int) (itoaB s.v)) (rw [listed_nil (by simp [go_sem, *])]; exact Terms.idle (TT Sh) _)
      clear hb hb'
      co_opw RS.rl hF (have hb := blsR (t : Int) (itoaB s.v); have hb' := blsRE (t : Int) (itoaB s.v)) (rw [listed_nil (by simp [go_sem, *])]; exact al_hd (by simp))
      clear hb hb'
      obtain ⟨nb, wz, hwz, hsz, hK⟩ := rn_new hF (t : Int) (itoaB s.v)
      rw [hwz, hsz]
      clear hwz hsz hF
      have hF := hK
      clear hK
      co_apply opsC_of_opC (TT Sh) (opC_append hS rfl rfl (.tmp 31) (.tmp 36) 37 rfl (by kernel_rfl) hit hz1 hz2 hz3 (by rfl) (by omega) (by rfl) (by rfl) (by omega) (news := [.int .i64 (t : Int), .string (itoaB s.v)]) (by rfl) (by simp [Value.oneCell']) (by simp only [maxLen]; omega) (by omega) ⟨hF.s.q.ext, hF.s.row⟩ hF.news hF.nlo (fun v' w₁ w' r hg hE => ?_))
      obtain ⟨hB, hE'⟩ := RB.grown hF.s r hg hE
      have hF2 : RG7 W pv pl pr pp pw s u v' (s.E ++ [((t : Int), itoaB s.v)]) w' := ⟨hB, by rw [List.length_append, evCells_add]; exact hE'.2⟩
      clear hF hB hE hE' hg r
      obtain ⟨sa, sc, hv'⟩ := own_sl hF2.row
      simp only [List.length_append, List.length_cons, List.length_nil, Nat.zero_add] at hv'
      have hF := hF2
      rw [hv'] at hF
      clear hF2
      try walk_nrm
      simp only [hv']
      clear hv'
      co_opw RG7.rl hF (have hc := hF.b.cw; have hz := hF.b.zw 0) (refine wr_own hS (by have := hF.b.q.lo; have := hF.b.low; show _ ≤ pw; omega) (block_of_cell hc) (fun e he => ?_); have hm := mem_listed he; simp [go_sem, storedEv, events_store_slice, *] at hm; exact hm)
      clear hc hz
      have hF2 := hF.b.setw hF.row
      clear hF
      have hF := hF2
      clear hF2
      co_apply opsC_nil (TT Sh)
      exact hQ _ _ _ (by rfl) hF
    · omega
  · apply opsC_more
    · co_op RS.rl hF (co_quiet (TT Sh))
      co_opw RS.rl hF (have hc := hF.cw) (refine rd_own hS (by have := hF.q.lo; have := hF.low; show _ ≤ pw; omega) (block_of_cell hc) (fun e he => ?_); have hm := mem_listed he; simp [go_sem, *] at hm; exact hm)
      clear hc
      co_opw RS.rl hF (have hc := hF.q.cv) (refine rd_own hS (by have := hF.q.lo; show _ ≤ pv; omega) (block_of_cell hc) (fun e he => ?_); have hm := mem_listed he; simp [go_sem, *] at hm; exact hm)
      clear hc
      co_apply opsC_call (TT Sh) (f := 8) (args := #[.tmp 33]) (ats := #[3]) (by rfl) (by rfl) (by rfl) (by simp only [List.map_toArray, List.map_cons, List.map_nil, Act.eval]; exact hkc s.v (by omega) main _ _ (TT Sh) (RS W pv pl pr pp pw s u) (fun _ _ h r => h.rl r) _ hF)
      rintro v w' ⟨rfl, hF⟩
      try walk_nrm
      co_opw RS.rl hF (have hb := bldR (t : Int) (itoaB s.v); have hb' := bldRE (t : Int) (itoaB s.v)) (rw [listed_nil (by simp [go_sem, *])]; exact Terms.idle (TT Sh) _)
      clear hb hb'
      co_opw RS.rl hF (have hb := blsR (t : Int) (itoaB s.v); have hb' := blsRE (t : Int) (itoaB s.v)) (rw [listed_nil (by simp [go_sem, *])]; exact al_hd (by simp))
      clear hb hb'
      obtain ⟨nb, wz, hwz, hsz, hK⟩ := rn_new hF (t : Int) (itoaB s.v)
      rw [hwz, hsz]
      clear hwz hsz hF
      have hF := hK
      clear hK
      co_apply opsC_of_opC (TT Sh) (opC_append hS rfl rfl (.tmp 31) (.tmp 36) 37 rfl (by kernel_rfl) hit hz1 hz2 hz3 (by rfl) (by omega) (by rfl) (by rfl) (by omega) (news := [.int .i64 (t : Int), .string (itoaB s.v)]) (by rfl) (by simp [Value.oneCell']) (by simp only [maxLen]; omega) (by omega) ⟨hF.s.q.ext, hF.s.row⟩ hF.news hF.nlo (fun v' w₁ w' r hg hE => ?_))
      obtain ⟨hB, hE'⟩ := RB.grown hF.s r hg hE
      have hF2 : RG7 W pv pl pr pp pw s u v' (s.E ++ [((t : Int), itoaB s.v)]) w' := ⟨hB, by rw [List.length_append, evCells_add]; exact hE'.2⟩
      clear hF hB hE hE' hg r
      obtain ⟨sa, sc, hv'⟩ := own_sl hF2.row
      simp only [List.length_append, List.length_cons, List.length_nil, Nat.zero_add] at hv'
      have hF := hF2
      rw [hv'] at hF
      clear hF2
      try walk_nrm
      simp only [hv']
      clear hv'
      co_opw RG7.rl hF (have hc := hF.b.cw; have hz := hF.b.zw 0) (refine wr_own hS (by have := hF.b.q.lo; have := hF.b.low; show _ ≤ pw; omega) (block_of_cell hc) (fun e he => ?_); have hm := mem_listed he; simp [go_sem, storedEv, events_store_slice, *] at hm; exact hm)
      clear hc hz
      have hF2 := hF.b.setw hF.row
      clear hF
      have hF := hF2
      clear hF2
      co_apply opsC_nil (TT Sh)
      exact hQ _ _ _ (by rfl) hF
    · omega
  · apply opsC_more
    · co_op RS.rl hF (co_quiet (TT Sh))
      co_opw RS.rl hF (have hc := hF.q.cv) (refine rd_own hS (by have := hF.q.lo; show _ ≤ pv; omega) (block_of_cell hc) (fun e he => ?_); have hm := mem_listed he; simp [go_sem, *] at hm; exact hm)
      clear hc
      co_opw RS.rl hF (have hc := hF.cw) (refine rd_own hS (by have := hF.q.lo; have := hF.low; show _ ≤ pw; omega) (block_of_cell hc) (fun e he => ?_); have hm := mem_listed he; simp [go_sem, *] at hm; exact hm)
      clear hc
      co_apply opsC_call (TT Sh) (f := 8) (args := #[.tmp 33]) (ats := #[3]) (by rfl) (by rfl) (by rfl) (by simp only [List.map_toArray, List.map_cons, List.map_nil, Act.eval]; exact hkc s.v (by omega) main _ _ (TT Sh) (RS W pv pl pr pp pw s u) (fun _ _ h r => h.rl r) _ hF)
      rintro v w' ⟨rfl, hF⟩
      try walk_nrm
      co_opw RS.rl hF (have hb := bldR (t : Int) (itoaB s.v); have hb' := bldRE (t : Int) (itoaB s.v)) (rw [listed_nil (by simp [go_sem, *])]; exact Terms.idle (TT Sh) _)
      clear hb hb'
      co_opw RS.rl hF (have hb := blsR (t : Int) (itoaB s.v); have hb' := blsRE (t : Int) (itoaB s.v)) (rw [listed_nil (by simp [go_sem, *])]; exact al_hd (by simp))
      clear hb hb'
      obtain ⟨nb, wz, hwz, hsz, hK⟩ := rn_new hF (t : Int) (itoaB s.v)
      rw [hwz, hsz]
      clear hwz hsz hF
      have hF := hK
      clear hK
      co_apply opsC_of_opC (TT Sh) (opC_append hS rfl rfl (.tmp 31) (.tmp 36) 37 rfl (by kernel_rfl) hit hz1 hz2 hz3 (by rfl) (by omega) (by rfl) (by rfl) (by omega) (news := [.int .i64 (t : Int), .string (itoaB s.v)]) (by rfl) (by simp [Value.oneCell']) (by simp only [maxLen]; omega) (by omega) ⟨hF.s.q.ext, hF.s.row⟩ hF.news hF.nlo (fun v' w₁ w' r hg hE => ?_))
      obtain ⟨hB, hE'⟩ := RB.grown hF.s r hg hE
      have hF2 : RG7 W pv pl pr pp pw s u v' (s.E ++ [((t : Int), itoaB s.v)]) w' := ⟨hB, by rw [List.length_append, evCells_add]; exact hE'.2⟩
      clear hF hB hE hE' hg r
      obtain ⟨sa, sc, hv'⟩ := own_sl hF2.row
      simp only [List.length_append, List.length_cons, List.length_nil, Nat.zero_add] at hv'
      have hF := hF2
      rw [hv'] at hF
      clear hF2
      try walk_nrm
      simp only [hv']
      clear hv'
      co_opw RG7.rl hF (have hc := hF.b.cw; have hz := hF.b.zw 0) (refine wr_own hS (by have := hF.b.q.lo; have := hF.b.low; show _ ≤ pw; omega) (block_of_cell hc) (fun e he => ?_); have hm := mem_listed he; simp [go_sem, storedEv, events_store_slice, *] at hm; exact hm)
      clear hc hz
      have hF2 := hF.b.setw hF.row
      clear hF
      have hF := hF2
      clear hF2
      co_apply opsC_nil (TT Sh)
      exact hQ _ _ _ (by rfl) hF
    · omega
  · apply opsC_more
    · co_op RS.rl hF (co_quiet (TT Sh))
      co_opw RS.rl hF (have hc := hF.q.cv) (refine rd_own hS (by have := hF.q.lo; show _ ≤ pv; omega) (block_of_cell hc) (fun e he => ?_); have hm := mem_listed he; simp [go_sem, *] at hm; exact hm)
      clear hc
      co_apply opsC_call (TT Sh) (f := 8) (args := #[.tmp 33]) (ats := #[3]) (by rfl) (by rfl) (by rfl) (by simp only [List.map_toArray, List.map_cons, List.map_nil, Act.eval]; exact hkc s.v (by omega) main _ _ (TT Sh) (RS W pv pl pr pp pw s u) (fun _ _ h r => h.rl r) _ hF)
      rintro v w' ⟨rfl, hF⟩
      try walk_nrm
      co_opw RS.rl hF (have hc := hF.cw) (refine rd_own hS (by have := hF.q.lo; have := hF.low; show _ ≤ pw; omega) (block_of_cell hc) (fun e he => ?_); have hm := mem_listed he; simp [go_sem, *] at hm; exact hm)
      clear hc
      co_opw RS.rl hF (have hb := bldR (t : Int) (itoaB s.v); have hb' := bldRE (t : Int) (itoaB s.v)) (rw [listed_nil (by simp [go_sem, *])]; exact Terms.idle (TT Sh) _)
      clear hb hb'
      co_opw RS.rl hF (have hb := blsR (t : Int) (itoaB s.v); have hb' := blsRE (t : Int) (itoaB s.v)) (rw [listed_nil (by simp [go_sem, *])]; exact al_hd (by simp))
      clear hb hb'
      obtain ⟨nb, wz, hwz, hsz, hK⟩ := rn_new hF (t : Int) (itoaB s.v)
      rw [hwz, hsz]
      clear hwz hsz hF
      have hF := hK
      clear hK
      co_apply opsC_of_opC (TT Sh) (opC_append hS rfl rfl (.tmp 31) (.tmp 36) 37 rfl (by kernel_rfl) hit hz1 hz2 hz3 (by rfl) (by omega) (by rfl) (by rfl) (by omega) (news := [.int .i64 (t : Int), .string (itoaB s.v)]) (by rfl) (by simp [Value.oneCell']) (by simp only [maxLen]; omega) (by omega) ⟨hF.s.q.ext, hF.s.row⟩ hF.news hF.nlo (fun v' w₁ w' r hg hE => ?_))
      obtain ⟨hB, hE'⟩ := RB.grown hF.s r hg hE
      have hF2 : RG7 W pv pl pr pp pw s u v' (s.E ++ [((t : Int), itoaB s.v)]) w' := ⟨hB, by rw [List.length_append, evCells_add]; exact hE'.2⟩
      clear hF hB hE hE' hg r
      obtain ⟨sa, sc, hv'⟩ := own_sl hF2.row
      simp only [List.length_append, List.length_cons, List.length_nil, Nat.zero_add] at hv'
      have hF := hF2
      rw [hv'] at hF
      clear hF2
      try walk_nrm
      simp only [hv']
      clear hv'
      co_opw RG7.rl hF (have hc := hF.b.cw; have hz := hF.b.zw 0) (refine wr_own hS (by have := hF.b.q.lo; have := hF.b.low; show _ ≤ pw; omega) (block_of_cell hc) (fun e he => ?_); have hm := mem_listed he; simp [go_sem, storedEv, events_store_slice, *] at hm; exact hm)
      clear hc hz
      have hF2 := hF.b.setw hF.row
      clear hF
      have hF := hF2
      clear hF2
      co_apply opsC_nil (TT Sh)
      exact hQ _ _ _ (by rfl) hF
    · omega
  · apply opsC_more
    · co_op RS.rl hF (co_quiet (TT Sh))
      co_opw RS.rl hF (have hc := hF.q.cv) (refine rd_own hS (by have := hF.q.lo; show _ ≤ pv; omega) (block_of_cell hc) (fun e he => ?_); have hm := mem_listed he; simp [go_sem, *] at hm; exact hm)
      clear hc
      co_apply opsC_call (TT Sh) (f := 8) (args := #[.tmp 33]) (ats := #[3]) (by rfl) (by rfl) (by rfl) (by simp only [List.map_toArray, List.map_cons, List.map_nil, Act.eval]; exact hkc s.v (by omega) main _ _ (TT Sh) (RS W pv pl pr pp pw s u) (fun _ _ h r => h.rl r) _ hF)
      rintro v w' ⟨rfl, hF⟩
      try walk_nrm
      co_opw RS.rl hF (have hb := bldR (t : Int) (itoaB s.v); have hb' := bldRE (t : Int) (itoaB s.v)) (rw [listed_nil (by simp [go_sem, *])]; exact Terms.idle (TT Sh) _)
      clear hb hb'
      co_opw RS.rl hF (have hc := hF.cw) (refine rd_own hS (by have := hF.q.lo; have := hF.low; show _ ≤ pw; omega) (block_of_cell hc) (fun e he => ?_); have hm := mem_listed he; simp [go_sem, *] at hm; exact hm)
      clear hc
      co_opw RS.rl hF (have hb := blsR (t : Int) (itoaB s.v); have hb' := blsRE (t : Int) (itoaB s.v)) (rw [listed_nil (by simp [go_sem, *])]; exact al_hd (by simp))
      clear hb hb'
      obtain ⟨nb, wz, hwz, hsz, hK⟩ := rn_new hF (t : Int) (itoaB s.v)
      rw [hwz, hsz]
      clear hwz hsz hF
      have hF := hK
      clear hK
      co_apply opsC_of_opC (TT Sh) (opC_append hS rfl rfl (.tmp 31) (.tmp 36) 37 rfl (by kernel_rfl) hit hz1 hz2 hz3 (by rfl) (by omega) (by rfl) (by rfl) (by omega) (news := [.int .i64 (t : Int), .string (itoaB s.v)]) (by rfl) (by simp [Value.oneCell']) (by simp only [maxLen]; omega) (by omega) ⟨hF.s.q.ext, hF.s.row⟩ hF.news hF.nlo (fun v' w₁ w' r hg hE => ?_))
      obtain ⟨hB, hE'⟩ := RB.grown hF.s r hg hE
      have hF2 : RG7 W pv pl pr pp pw s u v' (s.E ++ [((t : Int), itoaB s.v)]) w' := ⟨hB, by rw [List.length_append, evCells_add]; exact hE'.2⟩
      clear hF hB hE hE' hg r
      obtain ⟨sa, sc, hv'⟩ := own_sl hF2.row
      simp only [List.length_append, List.length_cons, List.length_nil, Nat.zero_add] at hv'
      have hF := hF2
      rw [hv'] at hF
      clear hF2
      try walk_nrm
      simp only [hv']
      clear hv'
      co_opw RG7.rl hF (have hc := hF.b.cw; have hz := hF.b.zw 0) (refine wr_own hS (by have := hF.b.q.lo; have := hF.b.low; show _ ≤ pw; omega) (block_of_cell hc) (fun e he => ?_); have hm := mem_listed he; simp [go_sem, storedEv, events_store_slice, *] at hm; exact hm)
      clear hc hz
      have hF2 := hF.b.setw hF.row
      clear hF
      have hF := hF2
      clear hF2
      co_apply opsC_nil (TT Sh)
      exact hQ _ _ _ (by rfl) hF
    · omega
  · apply opsC_more
    · co_op RS.rl hF (co_quiet (TT Sh))
      co_opw RS.rl hF (have hc := hF.q.cv) (refine rd_own hS (by have := hF.q.lo; show _ ≤ pv; omega) (block_of_cell hc) (fun e he => ?_); have hm := mem_listed he; simp [go_sem, *] at hm; exact hm)
      clear hc
      co_apply opsC_call (TT Sh) (f := 8) (args := #[.tmp 33]) (ats := #[3]) (by rfl) (by rfl) (by rfl) (by simp only [List.map_toArray, List.map_cons, List.map_nil, Act.eval]; exact hkc s.v (by omega) main _ _ (TT Sh) (RS W pv pl pr pp pw s u) (fun _ _ h r => h.rl r) _ hF)
      rintro v w' ⟨rfl, hF⟩
      try walk_nrm
      co_opw RS.rl hF (have hb := bldR (t : Int) (itoaB s.v); have hb' := bldRE (t : Int) (itoaB s.v)) (rw [listed_nil (by simp [go_sem, *])]; exact Terms.idle (TT Sh) _)
      clear hb hb'
      co_opw RS.rl hF (have hb := blsR (t : Int) (itoaB s.v); have hb' := blsRE (t : Int) (itoaB s.v)) (rw [listed_nil (by simp [go_sem, *])]; exact al_hd (by simp))
      clear hb hb'
      obtain ⟨nb, wz, hwz, hsz, hK⟩ := rn_new hF (t : Int) (itoaB s.v)
      rw [hwz, hsz]
      clear hwz hsz hF
      have hF := hK
      clear hK
      co_opw RN.rl hF (have hc := hF.s.cw) (refine rd_own hS (by have := hF.s.q.lo; have := hF.s.low; show _ ≤ pw; omega) (block_of_cell hc) (fun e he => ?_); have hm := mem_listed he; simp [go_sem, *] at hm; exact hm)
      clear hc
      co_apply opsC_of_opC (TT Sh) (opC_append hS rfl rfl (.tmp 31) (.tmp 36) 37 rfl (by kernel_rfl) hit hz1 hz2 hz3 (by rfl) (by omega) (by rfl) (by rfl) (by omega) (news := [.int .i64 (t : Int), .string (itoaB s.v)]) (by rfl) (by simp [Value.oneCell']) (by simp only [maxLen]; omega) (by omega) ⟨hF.s.q.ext, hF.s.row⟩ hF.news hF.nlo (fun v' w₁ w' r hg hE => ?_))
      obtain ⟨hB, hE'⟩ := RB.grown hF.s r hg hE
      have hF2 : RG7 W pv pl pr pp pw s u v' (s.E ++ [((t : Int), itoaB s.v)]) w' := ⟨hB, by rw [List.length_append, evCells_add]; exact hE'.2⟩
      clear hF hB hE hE' hg r
      obtain ⟨sa, sc, hv'⟩ := own_sl hF2.row
      simp only [List.length_append, List.length_cons, List.length_nil, Nat.zero_add] at hv'
      have hF := hF2
      rw [hv'] at hF
      clear hF2
      try walk_nrm
      simp only [hv']
      clear hv'
      co_opw RG7.rl hF (have hc := hF.b.cw; have hz := hF.b.zw 0) (refine wr_own hS (by have := hF.b.q.lo; have := hF.b.low; show _ ≤ pw; omega) (block_of_cell hc) (fun e he => ?_); have hm := mem_listed he; simp [go_sem, storedEv, events_store_slice, *] at hm; exact hm)
      clear hc hz
      have hF2 := hF.b.setw hF.row
      clear hF
      have hF := hF2
      clear hF2
      co_apply opsC_nil (TT Sh)
      exact hQ _ _ _ (by rfl) hF
    · omega
  · apply opsC_more
    · co_opw RS.rl hF (have hc := hF.q.cv) (refine rd_own hS (by have := hF.q.lo; show _ ≤ pv; omega) (block_of_cell hc) (fun e he => ?_); have hm := mem_listed he; simp [go_sem, *] at hm; exact hm)
      clear hc
      co_opw RS.rl hF (have hc := hF.cw) (refine rd_own hS (by have := hF.q.lo; have := hF.low; show _ ≤ pw; omega) (block_of_cell hc) (fun e he => ?_); have hm := mem_listed he; simp [go_sem, *] at hm; exact hm)
      clear hc
      co_op RS.rl hF (co_quiet (TT Sh))
      co_apply opsC_call (TT Sh) (f := 8) (args := #[.tmp 33]) (ats := #[3]) (by rfl) (by rfl) (by rfl) (by simp only [List.map_toArray, List.map_cons, List.map_nil, Act.eval]; exact hkc s.v (by omega) main _ _ (TT Sh) (RS W pv pl pr pp pw s u) (fun _ _ h r => h.rl r) _ hF)
      rintro v w' ⟨rfl, hF⟩
      try walk_nrm
      co_opw RS.rl hF (have hb := bldR (t : Int) (itoaB s.v); have hb' := bldRE (t : Int) (itoaB s.v)) (rw [listed_nil (by simp [go_sem, *])]; exact Terms.idle (TT Sh) _)
      clear hb hb'
      co_opw RS.rl hF (have hb := blsR (t : Int) (itoaB s.v); have hb' := blsRE (t : Int) (itoaB s.v)) (rw [listed_nil (by simp [go_sem, *])]; exact al_hd (by simp))
      clear hb hb'
      obtain ⟨nb, wz, hwz, hsz, hK⟩ := rn_new hF (t : Int) (itoaB s.v)
      rw [hwz, hsz]
      clear hwz hsz hF
      have hF := hK
      clear hK
      co_apply opsC_of_opC (TT Sh) (opC_append hS rfl rfl (.tmp 31) (.tmp 36) 37 rfl (by kernel_rfl) hit hz1 hz2 hz3 (by rfl) (by omega) (by rfl) (by rfl) (by omega) (news := [.int .i64 (t : Int), .string (itoaB s.v)]) (by rfl) (by simp [Value.oneCell']) (by simp only [maxLen]; omega) (by omega) ⟨hF.s.q.ext, hF.s.row⟩ hF.news hF.nlo (fun v' w₁ w' r hg hE => ?_))
      obtain ⟨hB, hE'⟩ := RB.grown hF.s r hg hE
      have hF2 : RG7 W pv pl pr pp pw s u v' (s.E ++ [((t : Int), itoaB s.v)]) w' := ⟨hB, by rw [List.length_append, evCells_add]; exact hE'.2⟩
      clear hF hB hE hE' hg r
      obtain ⟨sa, sc, hv'⟩ := own_sl hF2.row
      simp only [List.length_append, List.length_cons, List.length_nil, Nat.zero_add] at hv'
      have hF := hF2
      rw [hv'] at hF
      clear hF2
      try walk_nrm
      simp only [hv']
      clear hv'
      co_opw RG7.rl hF (have hc := hF.b.cw; have hz := hF.b.zw 0) (refine wr_own hS (by have := hF.b.q.lo; have := hF.b.low; show _ ≤ pw; omega) (block_of_cell hc) (fun e he => ?_); have hm := mem_listed he; simp [go_sem, storedEv, events_store_slice, *] at hm; exact hm)
      clear hc hz
      have hF2 := hF.b.setw hF.row
      clear hF
      have hF := hF2
      clear hF2
      co_apply opsC_nil (TT Sh)
      exact hQ _ _ _ (by rfl) hF
    · omega
  · apply opsC_more
    · co_opw RS.rl hF (have hc := hF.q.cv) (refine rd_own hS (by have := hF.q.lo; show _ ≤ pv; omega) (block_of_cell hc) (fun e he => ?_); have hm := mem_listed he; simp [go_sem, *] at hm; exact hm)
      clear hc
      co_opw RS.rl hF (have hc := hF.cw) (refine rd_own hS (by have := hF.q.lo; have := hF.low; show _ ≤ pw; omega) (block_of_cell hc) (fun e he => ?_); have hm := mem_listed he; simp [go_sem, *] at hm; exact hm)
      clear hc
      co_apply opsC_call (TT Sh) (f := 8) (args := #[.tmp 33]) (ats := #[3]) (by rfl) (by rfl) (by rfl) (by simp only [List.map_toArray, List.map_cons, List.map_nil, Act.eval]; exact hkc s.v (by omega) main _ _ (TT Sh) (RS W pv pl pr pp pw s u) (fun _ _ h r => h.rl r) _ hF)
      rintro v w' ⟨rfl, hF⟩
      try walk_nrm
      co_op RS.rl hF (co_quiet (TT Sh))
      co_opw RS.rl hF (have hb := bldR (t : Int) (itoaB s.v); have hb' := bldRE (t : Int) (itoaB s.v)) (rw [listed_nil (by simp [go_sem, *])]; exact Terms.idle (TT Sh) _)
      clear hb hb'
      co_opw RS.rl hF (have hb := blsR (t : Int) (itoaB s.v); have hb' := blsRE (t : Int) (itoaB s.v)) (rw [listed_nil (by simp [go_sem, *])]; exact al_hd (by simp))
      clear hb hb'
      obtain ⟨nb, wz, hwz, hsz, hK⟩ := rn_new hF (t : Int) (itoaB s.v)
      rw [hwz, hsz]
      clear hwz hsz hF
      have hF := hK
      clear hK
      co_apply opsC_of_opC (TT Sh) (opC_append hS rfl rfl (.tmp 31) (.tmp 36) 37 rfl (by kernel_rfl) hit hz1 hz2 hz3 (by rfl) (by omega) (by rfl) (by rfl) (by omega) (news := [.int .i64 (t : Int), .string (itoaB s.v)]) (by rfl) (by simp [Value.oneCell']) (by simp only [maxLen]; omega) (by omega) ⟨hF.s.q.ext, hF.s.row⟩ hF.news hF.nlo (fun v' w₁ w' r hg hE => ?_))
      obtain ⟨hB, hE'⟩ := RB.grown hF.s r hg hE
      have hF2 : RG7 W pv pl pr pp pw s u v' (s.E ++ [((t : Int), itoaB s.v)]) w' := ⟨hB, by rw [List.length_append, evCells_add]; exact hE'.2⟩
      clear hF hB hE hE' hg r
      obtain ⟨sa, sc, hv'⟩ := own_sl hF2.row
      simp only [List.length_append, List.length_cons, List.length_nil, Nat.zero_add] at hv'
      have hF := hF2
      rw [hv'] at hF
      clear hF2
      try walk_nrm
      simp only [hv']
      clear hv'
      co_opw RG7.rl hF (have hc := hF.b.cw; have hz := hF.b.zw 0) (refine wr_own hS (by have := hF.b.q.lo; have := hF.b.low; show _ ≤ pw; omega) (block_of_cell hc) (fun e he => ?_); have hm := mem_listed he; simp [go_sem, storedEv, events_store_slice, *] at hm; exact hm)
      clear hc hz
      have hF2 := hF.b.setw hF.row
      clear hF
      have hF := hF2
      clear hF2
      co_apply opsC_nil (TT Sh)
      exact hQ _ _ _ (by rfl) hF
    · omega
  · apply opsC_more
    · co_opw RS.rl hF (have hc := hF.q.cv) (refine rd_own hS (by have := hF.q.lo; show _ ≤ pv; omega) (block_of_cell hc) (fun e he => ?_); have hm := mem_listed he; simp [go_sem, *] at hm; exact hm)
      clear hc
      co_op RS.rl hF (co_quiet (TT Sh))
      co_opw RS.rl hF (have hc := hF.cw) (refine rd_own hS (by have := hF.q.lo; have := hF.low; show _ ≤ pw; omega) (block_of_cell hc) (fun e he => ?_); have hm := mem_listed he; simp [go_sem, *] at hm; exact hm)
      clear hc
      co_apply opsC_call (TT Sh) (f := 8) (args := #[.tmp 33]) (ats := #[3]) (by rfl) (by rfl) (by rfl) (by simp only [List.map_toArray, List.map_cons, List.map_nil, Act.eval]; exact hkc s.v (by omega) main _ _ (TT Sh) (RS W pv pl pr pp pw s u) (fun _ _ h r => h.rl r) _ hF)
      rintro v w' ⟨rfl, hF⟩
      try walk_nrm
      co_opw RS.rl hF (have hb := bldR (t : Int) (itoaB s.v); have hb' := bldRE (t : Int) (itoaB s.v)) (rw [listed_nil (by simp [go_sem, *])]; exact Terms.idle (TT Sh) _)
      clear hb hb'
      co_opw RS.rl hF (have hb := blsR (t : Int) (itoaB s.v); have hb' := blsRE (t : Int) (itoaB s.v)) (rw [listed_nil (by simp [go_sem, *])]; exact al_hd (by simp))
      clear hb hb'
      obtain ⟨nb, wz, hwz, hsz, hK⟩ := rn_new hF (t : Int) (itoaB s.v)
      rw [hwz, hsz]
      clear hwz hsz hF
      have hF := hK
      clear hK
      co_apply opsC_of_opC (TT Sh) (opC_append hS rfl rfl (.tmp 31) (.tmp 36) 37 rfl (by kernel_rfl) hit hz1 hz2 hz3 (by rfl) (by omega) (by rfl) (by rfl) (by omega) (news := [.int .i64 (t : Int), .string (itoaB s.v)]) (by rfl) (by simp [Value.oneCell']) (by simp only [maxLen]; omega) (by omega) ⟨hF.s.q.ext, hF.s.row⟩ hF.news hF.nlo (fun v' w₁ w' r hg hE => ?_))
      obtain ⟨hB, hE'⟩ := RB.grown hF.s r hg hE
      have hF2 : RG7 W pv pl pr pp pw s u v' (s.E ++ [((t : Int), itoaB s.v)]) w' := ⟨hB, by rw [List.length_append, evCells_add]; exact hE'.2⟩
      clear hF hB hE hE' hg r
      obtain ⟨sa, sc, hv'⟩ := own_sl hF2.row
      simp only [List.length_append, List.length_cons, List.length_nil, Nat.zero_add] at hv'
      have hF := hF2
      rw [hv'] at hF
      clear hF2
      try walk_nrm
      simp only [hv']
      clear hv'
      co_opw RG7.rl hF (have hc := hF.b.cw; have hz := hF.b.zw 0) (refine wr_own hS (by have := hF.b.q.lo; have := hF.b.low; show _ ≤ pw; omega) (block_of_cell hc) (fun e he => ?_); have hm := mem_listed he; simp [go_sem, storedEv, events_store_slice, *] at hm; exact hm)
      clear hc hz
      have hF2 := hF.b.setw hF.row
      clear hF
      have hF := hF2
      clear hF2
      co_apply opsC_nil (TT Sh)
      exact hQ _ _ _ (by rfl) hF
    · omega
  · apply opsC_more
    · co_opw RS.rl hF (have hc := hF.q.cv) (refine rd_own hS (by have := hF.q.lo; show _ ≤ pv; omega) (block_of_cell hc) (fun e he => ?_); have hm := mem_listed he; simp [go_sem, *] at hm; exact hm)
      clear hc
      co_op RS.rl hF (co_quiet (TT Sh))
      co_apply opsC_call (TT Sh) (f := 8) (args := #[.tmp 33]) (ats := #[3]) (by rfl) (by rfl) (by rfl) (by simp only [List.map_toArray, List.map_cons, List.map_nil, Act.eval]; exact hkc s.v (by omega) main _ _ (TT Sh) (RS W pv pl pr pp pw s u) (fun _ _ h r => h.rl r) _ hF)
      rintro v w' ⟨rfl, hF⟩
      try walk_nrm
      co_opw RS.rl hF (have hc := hF.cw) (refine rd_own hS (by have := hF.q.lo; have := hF.low; show _ ≤ pw; omega) (block_of_cell hc) (fun e he => ?_); have hm := mem_listed he; simp [go_sem, *] at hm; exact hm)
      clear hc
      co_opw RS.rl hF (have hb := bldR (t : Int) (itoaB s.v); have hb' := bldRE (t : Int) (itoaB s.v)) (rw [listed_nil (by simp [go_sem, *])]; exact Terms.idle (TT Sh) _)
      clear hb hb'
      co_opw RS.rl hF (have hb := blsR (t : Int) (itoaB s.v); have hb' := blsRE (t : Int) (itoaB s.v)) (rw [listed_nil (by simp [go_sem, *])]; exact al_hd (by simp))
      clear hb hb'
      obtain ⟨nb, wz, hwz, hsz, hK⟩ := rn_new hF (t : Int) (itoaB s.v)
      rw [hwz, hsz]
      clear hwz hsz hF
      have hF := hK
      clear hK
      co_apply opsC_of_opC (TT Sh) (opC_append hS rfl rfl (.tmp 31) (.tmp 36) 37 rfl (by kernel_rfl) hit hz1 hz2 hz3 (by rfl) (by omega) (by rfl) (by rfl) (by omega) (news := [.int .i64 (t : Int), .string (itoaB s.v)]) (by rfl) (by simp [Value.oneCell']) (by simp only [maxLen]; omega) (by omega) ⟨hF.s.q.ext, hF.s.row⟩ hF.news hF.nlo (fun v' w₁ w' r hg hE => ?_))
      obtain ⟨hB, hE'⟩ := RB.grown hF.s r hg hE
      have hF2 : RG7 W pv pl pr pp pw s u v' (s.E ++ [((t : Int), itoaB s.v)]) w' := ⟨hB, by rw [List.length_append, evCells_add]; exact hE'.2⟩
      clear hF hB hE hE' hg r
      obtain ⟨sa, sc, hv'⟩ := own_sl hF2.row
      simp only [List.length_append, List.length_cons, List.length_nil, Nat.zero_add] at hv'
      have hF := hF2
      rw [hv'] at hF
      clear hF2
      try walk_nrm
      simp only [hv']
      clear hv'
      co_opw RG7.rl hF (have hc := hF.b.cw; have hz := hF.b.zw 0) (refine wr_own hS (by have := hF.b.q.lo; have := hF.b.low; show _ ≤ pw; omega) (block_of_cell hc) (fun e he => ?_); have hm := mem_listed he; simp [go_sem, storedEv, events_store_slice, *] at hm; exact hm)
      clear hc hz
      have hF2 := hF.b.setw hF.row
      clear hF
      have hF := hF2
      clear hF2
      co_apply opsC_nil (TT Sh)
      exact hQ _ _ _ (by rfl) hF
    · omega
  · apply opsC_more
    · co_opw RS.rl hF (have hc := hF.q.cv) (refine rd_own hS (by have := hF.q.lo; show _ ≤ pv; omega) (block_of_cell hc) (fun e he => ?_); have hm := mem_listed he; simp [go_sem, *] at hm; exact hm)
      clear hc
      co_op RS.rl hF (co_quiet (TT Sh))
      co_apply opsC_call (TT Sh) (f := 8) (args := #[.tmp 33]) (ats := #[3]) (by rfl) (by rfl) (by rfl) (by simp only [List.map_toArray, List.map_cons, List.map_nil, Act.eval]; exact hkc s.v (by omega) main _ _ (TT Sh) (RS W pv pl pr pp pw s u) (fun _ _ h r => h.rl r) _ hF)
      rintro v w' ⟨rfl, hF⟩
      try walk_nrm
      co_opw RS.rl hF (have hb := bldR (t : Int) (itoaB s.v); have hb' := bldRE (t : Int) (itoaB s.v)) (rw [listed_nil (by simp [go_sem, *])]; exact Terms.idle (TT Sh) _)
      clear hb hb'
      co_opw RS.rl hF (have hc := hF.cw) (refine rd_own hS (by have := hF.q.lo; have := hF.low; show _ ≤ pw; omega) (block_of_cell hc) (fun e he => ?_); have hm := mem_listed he; simp [go_sem, *] at hm; exact hm)
      clear hc
      co_opw RS.rl hF (have hb := blsR (t : Int) (itoaB s.v); have hb' := blsRE (t : Int) (itoaB s.v)) (rw [listed_nil (by simp [go_sem, *])]; exact al_hd (by simp))
      clear hb hb'
      obtain ⟨nb, wz, hwz, hsz, hK⟩ := rn_new hF (t : Int) (itoaB s.v)
      rw [hwz, hsz]
      clear hwz hsz hF
      have hF := hK
      clear hK
      co_apply opsC_of_opC (TT Sh) (opC_append hS rfl rfl (.tmp 31) (.tmp 36) 37 rfl (by kernel_rfl) hit hz1 hz2 hz3 (by rfl) (by omega) (by rfl) (by rfl) (by omega) (news := [.int .i64 (t : Int), .string (itoaB s.v)]) (by rfl) (by simp [Value.oneCell']) (by simp only [maxLen]; omega) (by omega) ⟨hF.s.q.ext, hF.s.row⟩ hF.news hF.nlo (fun v' w₁ w' r hg hE => ?_))
      obtain ⟨hB, hE'⟩ := RB.grown hF.s r hg hE
      have hF2 : RG7 W pv pl pr pp pw s u v' (s.E ++ [((t : Int), itoaB s.v)]) w' := ⟨hB, by rw [List.length_append, evCells_add]; exact hE'.2⟩
      clear hF hB hE hE' hg r
      obtain ⟨sa, sc, hv'⟩ := own_sl hF2.row
      simp only [List.length_append, List.length_cons, List.length_nil, Nat.zero_add] at hv'
      have hF := hF2
      rw [hv'] at hF
      clear hF2
      try walk_nrm
      simp only [hv']
      clear hv'
      co_opw RG7.rl hF (have hc := hF.b.cw; have hz := hF.b.zw 0) (refine wr_own hS (by have := hF.b.q.lo; have := hF.b.low; show _ ≤ pw; omega) (block_of_cell hc) (fun e he => ?_); have hm := mem_listed he; simp [go_sem, storedEv, events_store_slice, *] at hm; exact hm)
      clear hc hz
      have hF2 := hF.b.setw hF.row
      clear hF
      have hF := hF2
      clear hF2
      co_apply opsC_nil (TT Sh)
      exact hQ _ _ _ (by rfl) hF
    · omega
  · apply opsC_more
    · co_opw RS.rl hF (have hc := hF.q.cv) (refine rd_own hS (by have := hF.q.lo; show _ ≤ pv; omega) (block_of_cell hc) (fun e he => ?_); have hm := mem_listed he; simp [go_sem, *] at hm; exact hm)
      clear hc
      co_op RS.rl hF (co_quiet (TT Sh))
      co_apply opsC_call (TT Sh) (f := 8) (args := #[.tmp 33]) (ats := #[3]) (by rfl) (by rfl) (by rfl) (by simp only [List.map_toArray, List.map_cons, List.map_nil, Act.eval]; exact hkc s.v (by omega) main _ _ (TT Sh) (RS W pv pl pr pp pw s u) (fun _ _ h r => h.rl r) _ hF)
      rintro v w' ⟨rfl, hF⟩
      try walk_nrm
      co_opw RS.rl hF (have hb := bldR (t : Int) (itoaB s.v); have hb' := bldRE (t : Int) (itoaB s.v)) (rw [listed_nil (by simp [go_sem, *])]; exact Terms.idle (TT Sh) _)
      clear hb hb'
      co_opw RS.rl hF (have hb := blsR (t : Int) (itoaB s.v); have hb' := blsRE (t : Int) (itoaB s.v)) (rw [listed_nil (by simp [go_sem, *])]; exact al_hd (by simp))
      clear hb hb'
      obtain ⟨nb, wz, hwz, hsz, hK⟩ := rn_new hF (t : Int) (itoaB s.v)
      rw [hwz, hsz]
      clear hwz hsz hF
      have hF := hK
      clear hK
      co_opw RN.rl hF (have hc := hF.s.cw) (refine rd_own hS (by have := hF.s.q.lo; have := hF.s.low; show _ ≤ pw; omega) (block_of_cell hc) (fun e he => ?_); have hm := mem_listed he; simp [go_sem, *] at hm; exact hm)
      clear hc
      co_apply opsC_of_opC (TT Sh) (opC_append hS rfl rfl (.tmp 31) (.tmp 36) 37 rfl (by kernel_rfl) hit hz1 hz2 hz3 (by rfl) (by omega) (by rfl) (by rfl) (by omega) (news := [.int .i64 (t : Int), .string (itoaB s.v)]) (by rfl) (by simp [Value.oneCell']) (by simp only [maxLen]; omega) (by omega) ⟨hF.s.q.ext, hF.s.row⟩ hF.news hF.nlo (fun v' w₁ w' r hg hE => ?_))
      obtain ⟨hB, hE'⟩ := RB.grown hF.s r hg hE
      have hF2 : RG7 W pv pl pr pp pw s u v' (s.E ++ [((t : Int), itoaB s.v)]) w' := ⟨hB, by rw [List.length_append, evCells_add]; exact hE'.2⟩
      clear hF hB hE hE' hg r
      obtain ⟨sa, sc, hv'⟩ := own_sl hF2.row
      simp only [List.length_append, List.length_cons, List.length_nil, Nat.zero_add] at hv'
      have hF := hF2
      rw [hv'] at hF
      clear hF2
      try walk_nrm
      simp only [hv']
      clear hv'
      co_opw RG7.rl hF (have hc := hF.b.cw; have hz := hF.b.zw 0) (refine wr_own hS (by have := hF.b.q.lo; have := hF.b.low; show _ ≤ pw; omega) (block_of_cell hc) (fun e he => ?_); have hm := mem_listed he; simp [go_sem, storedEv, events_store_slice, *] at hm; exact hm)
      clear hc hz
      have hF2 := hF.b.setw hF.row
      clear hF
      have hF := hF2
      clear hF2
      co_apply opsC_nil (TT Sh)
      exact hQ _ _ _ (by rfl) hF
    · omega
  · apply opsC_more
    · co_opw RS.rl hF (have hc := hF.q.cv) (refine rd_own hS (by have := hF.q.lo; show _ ≤ pv; omega) (block_of_cell hc) (fun e he => ?_); have hm := mem_listed he; simp [go_sem, *] at hm; exact hm)
      clear hc
      co_apply opsC_call (TT Sh) (f := 8) (args := #[.tmp 33]) (ats := #[3]) (by rfl) (by rfl) (by rfl) (by simp only [List.map_toArray, List.map_cons, List.map_nil, Act.eval]; exact hkc s.v (by omega) main _ _ (TT Sh) (RS W pv pl pr pp pw s u) (fun _ _ h r => h.rl r) _ hF)
      rintro v w' ⟨rfl, hF⟩
      try walk_nrm
      co_opw RS.rl hF (have hc := hF.cw) (refine rd_own hS (by have := hF.q.lo; have := hF.low; show _ ≤ pw; omega) (block_of_cell hc) (fun e he => ?_); have hm := mem_listed he; simp [go_sem, *] at hm; exact hm)
      clear hc
      co_op RS.rl hF (co_quiet (TT Sh))
      co_opw RS.rl hF (have hb := bldR (t : Int) (itoaB s.v); have hb' := bldRE (t : Int) (itoaB s.v)) (rw [listed_nil (by simp [go_sem, *])]; exact Terms.idle (TT Sh) _)
      clear hb hb'
      co_opw RS.rl hF (have hb := blsR (t : Int) (itoaB s.v); have hb' := blsRE (t : Int) (itoaB s.v)) (rw [listed_nil (by simp [go_sem, *])]; exact al_hd (by simp))
      clear hb hb'
      obtain ⟨nb, wz, hwz, hsz, hK⟩ := rn_new hF (t : Int) (itoaB s.v)
      rw [hwz, hsz]
      clear hwz hsz hF
      have hF := hK
      clear hK
      co_apply opsC_of_opC (TT Sh) (opC_append hS rfl rfl (.tmp 31) (.tmp 36) 37 rfl (by kernel_rfl) hit hz1 hz2 hz3 (by rfl) (by omega) (by rfl) (by rfl) (by omega) (news := [.int .i64 (t : Int), .string (itoaB s.v)]) (by rfl) (by simp [Value.oneCell']) (by simp only [maxLen]; omega) (by omega) ⟨hF.s.q.ext, hF.s.row⟩ hF.news hF.nlo (fun v' w₁ w' r hg hE => ?_))
      obtain ⟨hB, hE'⟩ := RB.grown hF.s r hg hE
      have hF2 : RG7 W pv pl pr pp pw s u v' (s.E ++ [((t : Int), itoaB s.v)]) w' := ⟨hB, by rw [List.length_append, evCells_add]; exact hE'.2⟩
      clear hF hB hE hE' hg r
      obtain ⟨sa, sc, hv'⟩ := own_sl hF2.row
      simp only [List.length_append, List.length_cons, List.length_nil, Nat.zero_add] at hv'
      have hF := hF2
      rw [hv'] at hF
      clear hF2
      try walk_nrm
      simp only [hv']
      clear hv'
      co_opw RG7.rl hF (have hc := hF.b.cw; have hz := hF.b.zw 0) (refine wr_own hS (by have := hF.b.q.lo; have := hF.b.low; show _ ≤ pw; omega) (block_of_cell hc) (fun e he => ?_); have hm := mem_listed he; simp [go_sem, storedEv, events_store_slice, *] at hm; exact hm)
      clear hc hz
      have hF2 := hF.b.setw hF.row
      clear hF
      have hF := hF2
      clear hF2
      co_apply opsC_nil (TT Sh)
      exact hQ _ _ _ (by rfl) hF
    · omega
  · apply opsC_more
    · co_opw RS.rl hF (have hc := hF.q.cv) (refine rd_own hS (by have := hF.q.lo; show _ ≤ pv; omega) (block_of_cell hc) (fun e he => ?_); have hm := mem_listed he; simp [go_sem, *] at hm; exact hm)
      clear hc
      co_apply opsC_call (TT Sh) (f := 8) (args := #[.tmp 33]) (ats := #[3]) (by rfl) (by rfl) (by rfl) (by simp only [List.map_toArray, List.map_cons, List.map_nil, Act.eval]; exact hkc s.v (by omega) main _ _ (TT Sh) (RS W pv pl pr pp pw s u) (fun _ _ h r => h.rl r) _ hF)
      rintro v w' ⟨rfl, hF⟩
      try walk_nrm
      co_op RS.rl hF (co_quiet (TT Sh))
      co_opw RS.rl hF (have hc := hF.cw) (refine rd_own hS (by have := hF.q.lo; have := hF.low; show _ ≤ pw; omega) (block_of_cell hc) (fun e he => ?_); have hm := mem_listed he; simp [go_sem, *] at hm; exact hm)
      clear hc
      co_opw RS.rl hF (have hb := bldR (t : Int) (itoaB s.v); have hb' := bldRE (t : Int) (itoaB s.v)) (rw [listed_nil (by simp [go_sem, *])]; exact Terms.idle (TT Sh) _)
      clear hb hb'
      co_opw RS.rl hF (have hb := blsR (t : Int) (itoaB s.v); have hb' := blsRE (t : Int) (itoaB s.v)) (rw [listed_nil (by simp [go_sem, *])]; exact al_hd (by simp))
      clear hb hb'
      obtain ⟨nb, wz, hwz, hsz, hK⟩ := rn_new hF (t : Int) (itoaB s.v)
      rw [hwz, hsz]
      clear hwz hsz hF
      have hF := hK
      clear hK
      co_apply opsC_of_opC (TT Sh) (opC_append hS rfl rfl (.tmp 31) (.tmp 36) 37 rfl (by kernel_rfl) hit hz1 hz2 hz3 (by rfl) (by omega) (by rfl) (by rfl) (by omega) (news := [.int .i64 (t : Int), .string (itoaB s.v)]) (by rfl) (by simp [Value.oneCell']) (by simp only [maxLen]; omega) (by omega) ⟨hF.s.q.ext, hF.s.row⟩ hF.news hF.nlo (fun v' w₁ w' r hg hE => ?_))
      obtain ⟨hB, hE'⟩ := RB.grown hF.s r hg hE
      have hF2 : RG7 W pv pl pr pp pw s u v' (s.E ++ [((t : Int), itoaB s.v)]) w' := ⟨hB, by rw [List.length_append, evCells_add]; exact hE'.2⟩
      clear hF hB hE hE' hg r
      obtain ⟨sa, sc, hv'⟩ := own_sl hF2.row
      simp only [List.length_append, List.length_cons, List.length_nil, Nat.zero_add] at hv'
      have hF := hF2
      rw [hv'] at hF
      clear hF2
      try walk_nrm
      simp only [hv']
      clear hv'
      co_opw RG7.rl hF (have hc := hF.b.cw; have hz := hF.b.zw 0) (refine wr_own hS (by have := hF.b.q.lo; have := hF.b.low; show _ ≤ pw; omega) (block_of_cell hc) (fun e he => ?_); have hm := mem_listed he; simp [go_sem, storedEv, events_store_slice, *] at hm; exact hm)
      clear hc hz
      have hF2 := hF.b.setw hF.row
      clear hF
      have hF := hF2
      clear hF2
      co_apply opsC_nil (TT Sh)
      exact hQ _ _ _ (by rfl) hF
    · omega
  · apply opsC_more
    · co_opw RS.rl hF (have hc := hF.q.cv) (refine rd_own hS (by have := hF.q.lo; show _ ≤ pv; omega) (block_of_cell hc) (fun e he => ?_); have hm := mem_listed he; simp [go_sem, *] at hm; exact hm)
      clear hc
      co_apply opsC_call (TT Sh) (f := 8) (args := #[.tmp 33]) (ats := #[3]) (by rfl) (by rfl) (by rfl) (by simp only [List.map_toArray, List.map_cons, List.map_nil, Act.eval]; exact hkc s.v (by omega) main _ _ (TT Sh) (RS W pv pl pr pp pw s u) (fun _ _ h r => h.rl r) _ hF)
      rintro v w' ⟨rfl, hF⟩
      try walk_nrm
      co_op RS.rl hF (co_quiet (TT Sh))
      co_opw RS.rl hF (have hb := bldR (t : Int) (itoaB s.v); have hb' := bldRE (t : Int) (itoaB s.v)) (rw [listed_nil (by simp [go_sem, *])]; exact Terms.idle (TT Sh) _)
      clear hb hb'
      co_opw RS.rl hF (have hc := hF.cw) (refine rd_own hS (by have := hF.q.lo; have := hF.low; show _ ≤ pw; omega) (block_of_cell hc) (fun e he => ?_); have hm := mem_listed he; simp [go_sem, *] at hm; exact hm)
      clear hc
      co_opw RS.rl hF (have hb := blsR (t : Int) (itoaB s.v); have hb' := blsRE (t : Int) (itoaB s.v)) (rw [listed_nil (by simp [go_sem, *])]; exact al_hd (by simp))
      clear hb hb'
      obtain ⟨nb, wz, hwz, hsz, hK⟩ := rn_new hF (t : Int) (itoaB s.v)
      rw [hwz, hsz]
      clear hwz hsz hF
      have hF := hK
      clear hK
      co_apply opsC_of_opC (TT Sh) (opC_append hS rfl rfl (.tmp 31) (.tmp 36) 37 rfl (by kernel_rfl) hit hz1 hz2 hz3 (by rfl) (by omega) (by rfl) (by rfl) (by omega) (news := [.int .i64 (t : Int), .string (itoaB s.v)]) (by rfl) (by simp [Value.oneCell']) (by simp only [maxLen]; omega) (by omega) ⟨hF.s.q.ext, hF.s.row⟩ hF.news hF.nlo (fun v' w₁ w' r hg hE => ?_))
      obtain ⟨hB, hE'⟩ := RB.grown hF.s r hg hE
      have hF2 : RG7 W pv pl pr pp pw s u v' (s.E ++ [((t : Int), itoaB s.v)]) w' := ⟨hB, by rw [List.length_append, evCells_add]; exact hE'.2⟩
      clear hF hB hE hE' hg r
      obtain ⟨sa, sc, hv'⟩ := own_sl hF2.row
      simp only [List.length_append, List.length_cons, List.length_nil, Nat.zero_add] at hv'
      have hF := hF2
      rw [hv'] at hF
      clear hF2
      try walk_nrm
      simp only [hv']
      clear hv'
      co_opw RG7.rl hF (have hc := hF.b.cw; have hz := hF.b.zw 0) (refine wr_own hS (by have := hF.b.q.lo; have := hF.b.low; show _ ≤ pw; omega) (block_of_cell hc) (fun e he => ?_); have hm := mem_listed he; simp [go_sem, storedEv, events_store_slice, *] at hm; exact hm)
      clear hc hz
      have hF2 := hF.b.setw hF.row
      clear hF
      have hF := hF2
      clear hF2
      co_apply opsC_nil (TT Sh)
      exact hQ _ _ _ (by rfl) hF
    · omega
  · apply opsC_more
    · co_opw RS.rl hF (have hc := hF.q.cv) (refine rd_own hS (by have := hF.q.lo; show _ ≤ pv; omega) (block_of_cell hc) (fun e he => ?_); have hm := mem_listed he; simp [go_sem, *] at hm; exact hm)
      clear hc
      co_apply opsC_call (TT Sh) (f := 8) (args := #[.tmp 33]) (ats := #[3]) (by rfl) (by rfl) (by rfl) (by simp only [List.map_toArray, List.map_cons, List.map_nil, Act.eval]; exact hkc s.v (by omega) main _ _ (TT Sh) (RS W pv pl pr pp pw s u) (fun _ _ h r => h.rl r) _ hF)
      rintro v w' ⟨rfl, hF⟩
      try walk_nrm
      co_op RS.rl hF (co_quiet (TT Sh))
      co_opw RS.rl hF (have hb := bldR (t : Int) (itoaB s.v); have hb' := bldRE (t : Int) (itoaB s.v)) (rw [listed_nil (by simp [go_sem, *])]; exact Terms.idle (TT Sh) _)
      clear hb hb'
      co_opw RS.rl hF (have hb := blsR (t : Int) (itoaB s.v); have hb' := blsRE (t : Int) (itoaB s.v)) (rw [listed_nil (by simp [go_sem, *])]; exact al_hd (by simp))
      clear hb hb'
      obtain ⟨nb, wz, hwz, hsz, hK⟩ := rn_new hF (t : Int) (itoaB s.v)
      rw [hwz, hsz]
      clear hwz hsz hF
      have hF := hK
      clear hK
      co_opw RN.rl hF (have hc := hF.s.cw) (refine rd_own hS (by have := hF.s.q.lo; have := hF.s.low; show _ ≤ pw; omega) (block_of_cell hc) (fun e he => ?_); have hm := mem_listed he; simp [go_sem, *] at hm; exact hm)
      clear hc
      co_apply opsC_of_opC (TT Sh) (opC_append hS rfl rfl (.tmp 31) (.tmp 36) 37 rfl (by kernel_rfl) hit hz1 hz2 hz3 (by rfl) (by omega) (by rfl) (by rfl) (by omega) (news := [.int .i64 (t : Int), .string (itoaB s.v)]) (by rfl) (by simp [Value.oneCell']) (by simp only [maxLen]; omega) (by omega) ⟨hF.s.q.ext, hF.s.row⟩ hF.news hF.nlo (fun v' w₁ w' r hg hE => ?_))
      obtain ⟨hB, hE'⟩ := RB.grown hF.s r hg hE
      have hF2 : RG7 W pv pl pr pp pw s u v' (s.E ++ [((t : Int), itoaB s.v)]) w' := ⟨hB, by rw [List.length_append, evCells_add]; exact hE'.2⟩
      clear hF hB hE hE' hg r
      obtain ⟨sa, sc, hv'⟩ := own_sl hF2.row
      simp only [List.length_append, List.length_cons, List.length_nil, Nat.zero_add] at hv'
      have hF := hF2
      rw [hv'] at hF
      clear hF2
      try walk_nrm
      simp only [hv']
      clear hv'
      co_opw RG7.rl hF (have hc := hF.b.cw; have hz := hF.b.zw 0) (refine wr_own hS (by have := hF.b.q.lo; have := hF.b.low; show _ ≤ pw; omega) (block_of_cell hc) (fun e he => ?_); have hm := mem_listed he; simp [go_sem, storedEv, events_store_slice, *] at hm; exact hm)
      clear hc hz
      have hF2 := hF.b.setw hF.row
      clear hF
      have hF := hF2
      clear hF2
      co_apply opsC_nil (TT Sh)
      exact hQ _ _ _ (by rfl) hF
    · omega
end
end Go.Proofs.YtggfcdhkgldbfaaDoor
