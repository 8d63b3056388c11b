/-
  PARTS of a claim, merged by segs.py: CwJ, CwI.
-/
import Derived.Test.YtggfcdhkgldbfaaDoorS16
import Derived.Conc.CompanyDraw
import Derived.Conc.SmallLaws
namespace Go.Proofs.YtggfcdhkgldbfaaDoor
set_option linter.unusedSimpArgs false
set_option linter.unusedVariables false

/-! ### CwJ -/
section
set_option linter.unusedSimpArgs false
open Go Go.Conc Go.RowKit Go.ConcR.Gen Cw

theorem events_store_int (P : Program) (w : World) (es : Array Event) (a : Addr) (m : Mode) (k : IntKind) (n : Int) : (store a (.int k n) m).events P w es = storedEv P w es a (.int k n) m := events_store P w es a _ m rfl
theorem events_store_iface (P : Program) (w : World) (es : Array Event) (a : Addr) (m : Mode) (t : TypeId) (v : Value) : (store a (.iface t v) m).events P w es = storedEv P w es a (.iface t v) m := events_store P w es a _ m rfl
theorem q_rl {Q : World → Prop} {l : List (Nat × Obj)} (hrl : ∀ w w', Q w → Rz w w' → Q w') {w w' : World} (h : Q w ∧ ∀ x ∈ l, w.heap[x.1]? = some x.2) (r : Rz w w') : Q w' ∧ ∀ x ∈ l, w'.heap[x.1]? = some x.2 :=
  ⟨hrl _ _ h.1 r, fun x hx => (r.same x.1 (Array.getElem?_eq_some_iff.1 (h.2 x hx)).1 (fun y => y)).trans (h.2 x hx)⟩
/-- Behind the boxes of a round. -/
def AtBoxed (ps wk tk : Value) (n i wg ev bi bt : Nat) (cs : List Frame) (g : Goroutine) : Prop :=
  ∃ T : Array Value, T.size = 79 ∧ T[0]? = some ps ∧ T[7]? = some wk ∧ T[6]? = some (pb ev) ∧ T[8]? = some (pb wg) ∧ T[33]? = some tk ∧ T[34]? = some (.int .i64 n) ∧ T[35]? = some (.int .i64 i) ∧ T[9]? = some (pb bi) ∧ T[10]? = some (pb bt) ∧
    g = G ((base 6).at ⟨T, []⟩ (.code (rt blk1) :: todo1)) cs
section
variable {X : Cx} {Q : World → Prop} {mn : Bool}
set_option maxRecDepth 100000 in
theorem h_boxes (hrl : ∀ w w', Q w → Rz w w' → Q w') {N₀ : Nat} (hfl : Floor X (fun _ => False) N₀) (hbx : X.Bx = BxW) (hQn : ∀ w, Q w → N₀ ≤ w.heap.size) (hQa : ∀ w o, Q w → Q (w.alloc o)) (hQs : ∀ w b v, N₀ ≤ b → Q w → Q (w.setCell ⟨b, 0, none⟩ v)) {ps wk : Value} {p o cap n i wg ev : Nat} {ty : TypeId} {xv : Value} (hi : i < n) (hc : ∀ w, Q w → w.cell? ⟨p, o + i, none⟩ = some (.iface ty xv)) (hsp : ∀ k, ¬ X.Sh (.cell ⟨p, k, none⟩)) (cs : List Frame) (g : Goroutine) (w : World) (hF : Q w ∧ ∀ x ∈ ([] : List (Nat × Obj)), w.heap[x.1]? = some x.2)
    (hg : Head1 ps wk (.slice (some ⟨p, o, none⟩) n cap) n i wg ev cs g) :
    Goes Tryd.prog mn Rz (HDq X) (fun g w => ∃ bi bt, N₀ ≤ bi ∧ N₀ ≤ bt ∧ AtBoxed ps wk (.slice (some ⟨p, o, none⟩) n cap) n i wg ev bi bt cs g ∧ Q w ∧ ∀ x ∈ [(bi, Obj.cells #[.int .i64 i] 3 (0, 0)), (bt, Obj.cells #[.iface ty xv] 49 (0, 0))], w.heap[x.1]? = some x.2) 30 g w := by
  obtain ⟨T, hT, h0, h7, h6, h8, h33, h34, h35, rfl⟩ := hg
  obtain ⟨v0, v1, v2, v3, v4, v5, v6, v7, v8, v9, v10, v11, v12, v13, v14, v15, v16, v17, v18, v19, v20, v21, v22, v23, v24, v25, v26, v27, v28, v29, v30, v31, v32, v33, v34, v35, v36, v37, v38, v39, v40, v41, v42, v43, v44, v45, v46, v47, v48, v49, v50, v51, v52, v53, v54, v55, v56, v57, v58, v59, v60, v61, v62, v63, v64, v65, v66, v67, v68, v69, v70, v71, v72, v73, v74, v75, v76, v77, v78, rfl⟩ := array79 T hT
  simp only [List.getElem?_toArray, List.getElem?_cons_zero, List.getElem?_cons_succ, Option.some.injEq] at h0 h7 h6 h8 h33 h34 h35
  subst h0
  subst h7
  subst h6
  subst h8
  subst h33
  subst h34
  subst h35
  have hii : (i : Int) < (n : Int) := by omega
  simp only [rnd1, cd7, bodyM, inner, rt, lf, Tryd.f6, Option.getD_some]
  refine Goes.step rfl (fun w hr => ?_)
  replace hF := (q_rl hrl) hF hr
  clear hr
  rw [stepG_seq]
  simp only [goes_go]
  refine ⟨hdq_idle _ _, ?_⟩
  refine Goes.step rfl (fun w hr => ?_)
  replace hF := (q_rl hrl) hF hr
  clear hr
  rw [stepG_region]
  simp only [goes_go, List.size_toArray, List.length_cons, List.length_nil, Nat.reduceAdd, Nat.zero_add, List.range, List.range.loop]
  refine ⟨hdq_idle _ _, ?_⟩
  refine Goes.step rfl (fun w hr => ?_)
  replace hF := (q_rl hrl) hF hr
  clear hr
  refine goes_oper_k rfl rfl (by k_ne) (fun K hK => ?_)
  go_simp
  refine hK _ _ ⟨?_, ?_⟩
  · rw [listed_nil (by simp [go_sem])]; exact hdq_idle _ _
  clear hK K
  try walk_nrm
  refine Goes.step rfl (fun w hr => ?_)
  replace hF := (q_rl hrl) hF hr
  clear hr
  rw [stepG_region_end]
  simp only [goes_go]
  refine ⟨hdq_idle _ _, ?_⟩
  refine Goes.step rfl (fun w hr => ?_)
  replace hF := (q_rl hrl) hF hr
  clear hr
  rw [stepG_seq]
  simp only [goes_go]
  refine ⟨hdq_idle _ _, ?_⟩
  refine Goes.step rfl (fun w hr => ?_)
  replace hF := (q_rl hrl) hF hr
  clear hr
  rw [stepG_cond (t := true) (by first | rfl | (simp [Act.eval]; omega))]
  simp only [goes_go, if_true, if_false, Bool.false_eq_true, ↓reduceIte]
  refine ⟨hdq_idle _ _, ?_⟩
  refine Goes.step rfl (fun w hr => ?_)
  replace hF := (q_rl hrl) hF hr
  clear hr
  rw [stepG_skip]
  simp only [goes_go]
  refine ⟨hdq_idle _ _, ?_⟩
  refine Goes.step rfl (fun w hr => ?_)
  replace hF := (q_rl hrl) hF hr
  clear hr
  rw [stepG_seq]
  simp only [goes_go]
  refine ⟨hdq_idle _ _, ?_⟩
  refine Goes.step rfl (fun w hr => ?_)
  replace hF := (q_rl hrl) hF hr
  clear hr
  rw [stepG_block]
  simp only [goes_go]
  refine ⟨hdq_idle _ _, ?_⟩
  refine Goes.step rfl (fun w hr => ?_)
  replace hF := (q_rl hrl) hF hr
  clear hr
  rw [stepG_seq]
  simp only [goes_go]
  refine ⟨hdq_idle _ _, ?_⟩
  refine Goes.step rfl (fun w hr => ?_)
  replace hF := (q_rl hrl) hF hr
  clear hr
  rw [stepG_region]
  simp only [goes_go, List.size_toArray, List.length_cons, List.length_nil, Nat.reduceAdd, Nat.zero_add, List.range, List.range.loop]
  refine ⟨hdq_idle _ _, ?_⟩
  refine Goes.step rfl (fun w hr => ?_)
  replace hF := (q_rl hrl) hF hr
  clear hr
  refine goes_oper_k rfl rfl (by k_ne) (fun K hK => ?_)
  go_simp
  refine hK _ _ ⟨?_, ?_⟩
  · rw [listed_nil (by simp [go_sem])]; exact hdq_idle _ _
  clear hK K
  try walk_nrm
  refine Goes.step rfl (fun w hr => ?_)
  replace hF := (q_rl hrl) hF hr
  clear hr
  refine goes_oper_k rfl rfl (by k_ne) (fun K hK => ?_)
  go_simp
  refine hK _ _ ⟨?_, ?_⟩
  · rw [listed_nil (by simp [go_sem, *])]; exact hdq_idle _ _
  clear hK K
  try walk_nrm
  refine Goes.step rfl (fun w hr => ?_)
  replace hF := (q_rl hrl) hF hr
  clear hr
  have hc := hc w hF.1
  refine goes_oper_k rfl rfl (by k_ne) (fun K hK => ?_)
  go_simp
  refine hK _ _ ⟨?_, ?_⟩
  · refine hdq_read (fun e he => ?_)
    have hm := mem_listed he
    simp [go_sem, *] at hm
    exact ⟨_, hm, block_of_cell hc, hsp _⟩
  clear hK K hc
  try walk_nrm
  refine Goes.step rfl (fun w hr => ?_)
  replace hF := (q_rl hrl) hF hr
  clear hr
  refine goes_oper_k rfl rfl (by k_ne) (fun K hK => ?_)
  go_simp
  have hnbi := hQn w hF.1
  refine hK _ _ ⟨?_, ?_⟩
  · rw [listed_nil (by simp [go_sem])]
    exact hdq_alloc (fun a ha => Nat.lt_of_lt_of_le (hfl.st a ha) hnbi) (fun c hc => Nat.lt_of_lt_of_le (hfl.ch c hc) hnbi) (fun o => Nat.lt_of_lt_of_le (hfl.wg o) hnbi) (by simp)
  clear hK K
  try walk_nrm
  have hltbi : ∀ x ∈ ([] : List (Nat × Obj)), x.1 ≠ w.heap.size := fun x hx => Nat.ne_of_lt (Array.getElem?_eq_some_iff.1 (hF.2 x hx)).1
  replace hF : Q (w.alloc (Obj.cells #[.int .i64 0] 3 (0, 0))) ∧ ∀ x ∈ (w.heap.size, Obj.cells #[.int .i64 0] 3 (0, 0)) :: ([] : List (Nat × Obj)), (w.alloc (Obj.cells #[.int .i64 0] 3 (0, 0))).heap[x.1]? = some x.2 := by
    refine ⟨hQa w _ hF.1, fun x hx => ?_⟩
    rcases List.mem_cons.1 hx with rfl | hx
    · exact heap_alloc_new w _
    · rw [heap_alloc_old w _ _ (Array.getElem?_eq_some_iff.1 (hF.2 x hx)).1]; exact hF.2 x hx
  generalize w.heap.size = bi at *
  generalize w.alloc _ = w at *
  refine Goes.step rfl (fun w hr => ?_)
  replace hF := (q_rl hrl) hF hr
  clear hr
  refine goes_oper_k rfl rfl (by k_ne) (fun K hK => ?_)
  go_simp
  have hnbt := hQn w hF.1
  refine hK _ _ ⟨?_, ?_⟩
  · rw [listed_nil (by simp [go_sem])]
    exact hdq_alloc (fun a ha => Nat.lt_of_lt_of_le (hfl.st a ha) hnbt) (fun c hc => Nat.lt_of_lt_of_le (hfl.ch c hc) hnbt) (fun o => Nat.lt_of_lt_of_le (hfl.wg o) hnbt) (by simp)
  clear hK K
  try walk_nrm
  have hltbt : ∀ x ∈ ([(bi, Obj.cells #[.int .i64 0] 3 (0, 0))] : List (Nat × Obj)), x.1 ≠ w.heap.size := fun x hx => Nat.ne_of_lt (Array.getElem?_eq_some_iff.1 (hF.2 x hx)).1
  replace hF : Q (w.alloc (Obj.cells #[.nilIface] 49 (0, 0))) ∧ ∀ x ∈ (w.heap.size, Obj.cells #[.nilIface] 49 (0, 0)) :: ([(bi, Obj.cells #[.int .i64 0] 3 (0, 0))] : List (Nat × Obj)), (w.alloc (Obj.cells #[.nilIface] 49 (0, 0))).heap[x.1]? = some x.2 := by
    refine ⟨hQa w _ hF.1, fun x hx => ?_⟩
    rcases List.mem_cons.1 hx with rfl | hx
    · exact heap_alloc_new w _
    · rw [heap_alloc_old w _ _ (Array.getElem?_eq_some_iff.1 (hF.2 x hx)).1]; exact hF.2 x hx
  generalize w.heap.size = bt at *
  generalize w.alloc _ = w at *
  have hne : bi ≠ bt := hltbt (bi, Obj.cells #[.int .i64 0] 3 (0, 0)) (by simp)
  clear hltbi hltbt
  refine Goes.step rfl (fun w hr => ?_)
  replace hF := (q_rl hrl) hF hr
  clear hr
  have hb := hF.2 (bi, Obj.cells #[.int .i64 0] 3 (0, 0)) (by simp)
  have hc : w.cell? ⟨bi, 0, none⟩ = some (.int .i64 0) := by simp [World.cell?, hb]
  have hz : w.frozen? ⟨bi, 0, none⟩ = false := by simp [World.frozen?, hb]
  refine goes_oper_k rfl rfl (by k_ne) (fun K hK => ?_)
  go_simp
  try (unfold stored; go_simp)
  refine hK _ _ ⟨?_, ?_⟩
  · refine (hfl.ok hnbi).write (block_of_cell hc) ?_ (fun e he => ?_)
    · rintro ⟨v, ty', hv, hb', _⟩
      rw [hb] at hv
      cases hv
      rw [hbx] at hb'
      rcases hb' with ⟨_, _, e | ⟨e, _⟩⟩ | e <;> cases e
    · have hm := mem_listed he
      simp [go_sem, events_store_int, events_store_iface, storedEv, *] at hm
      exact hm
  clear hK K hc hz
  try walk_nrm
  replace hF : Q (w.setCell ⟨bi, 0, none⟩ (.int .i64 i)) ∧ ∀ x ∈ ([(bt, Obj.cells #[.nilIface] 49 (0, 0)), (bi, Obj.cells #[.int .i64 i] 3 (0, 0))] : List (Nat × Obj)), (w.setCell ⟨bi, 0, none⟩ (.int .i64 i)).heap[x.1]? = some x.2 := by
    refine ⟨hQs w _ _ hnbi hF.1, fun y hy => ?_⟩
    simp only [List.mem_cons, List.not_mem_nil, or_false] at hy
    rcases hy with rfl | rfl
    · first | (simp [World.setCell, Array.getElem?_modify, hb]; done) | (rw [heap_setCell_ne w _ _ (by first | exact hne | exact hne.symm)]; exact hF.2 _ (by simp))
    · first | (simp [World.setCell, Array.getElem?_modify, hb]; done) | (rw [heap_setCell_ne w _ _ (by first | exact hne | exact hne.symm)]; exact hF.2 _ (by simp))
  clear hb
  generalize w.setCell ⟨bi, 0, none⟩ (.int .i64 i) = w at *
  refine Goes.step rfl (fun w hr => ?_)
  replace hF := (q_rl hrl) hF hr
  clear hr
  have hb := hF.2 (bt, Obj.cells #[.nilIface] 49 (0, 0)) (by simp)
  have hc : w.cell? ⟨bt, 0, none⟩ = some (.nilIface) := by simp [World.cell?, hb]
  have hz : w.frozen? ⟨bt, 0, none⟩ = false := by simp [World.frozen?, hb]
  refine goes_oper_k rfl rfl (by k_ne) (fun K hK => ?_)
  go_simp
  try (unfold stored; go_simp)
  refine hK _ _ ⟨?_, ?_⟩
  · refine (hfl.ok hnbt).write (block_of_cell hc) ?_ (fun e he => ?_)
    · rintro ⟨v, ty', hv, hb', _⟩
      rw [hb] at hv
      cases hv
      rw [hbx] at hb'
      rcases hb' with ⟨_, _, e | ⟨e, _⟩⟩ | e <;> cases e
    · have hm := mem_listed he
      simp [go_sem, events_store_int, events_store_iface, storedEv, *] at hm
      exact hm
  clear hK K hc hz
  try walk_nrm
  replace hF : Q (w.setCell ⟨bt, 0, none⟩ (.iface ty xv)) ∧ ∀ x ∈ ([(bi, Obj.cells #[.int .i64 i] 3 (0, 0)), (bt, Obj.cells #[.iface ty xv] 49 (0, 0))] : List (Nat × Obj)), (w.setCell ⟨bt, 0, none⟩ (.iface ty xv)).heap[x.1]? = some x.2 := by
    refine ⟨hQs w _ _ hnbt hF.1, fun y hy => ?_⟩
    simp only [List.mem_cons, List.not_mem_nil, or_false] at hy
    rcases hy with rfl | rfl
    · first | (simp [World.setCell, Array.getElem?_modify, hb]; done) | (rw [heap_setCell_ne w _ _ (by first | exact hne | exact hne.symm)]; exact hF.2 _ (by simp))
    · first | (simp [World.setCell, Array.getElem?_modify, hb]; done) | (rw [heap_setCell_ne w _ _ (by first | exact hne | exact hne.symm)]; exact hF.2 _ (by simp))
  clear hb
  generalize w.setCell ⟨bt, 0, none⟩ (.iface ty xv) = w at *
  refine Goes.step rfl (fun w hr => ?_)
  replace hF := (q_rl hrl) hF hr
  clear hr
  rw [stepG_region_end]
  simp only [goes_go]
  refine ⟨hdq_idle _ _, ?_⟩
  refine Goes.stop (fun w hr => ⟨bi, bt, hnbi, hnbt, ⟨_, ?_, ?_, ?_, ?_, ?_, ?_, ?_, ?_, ?_, ?_, rfl⟩, q_rl hrl hF hr⟩) <;> rfl
end
end

/-! ### CwI -/
section
set_option linter.unusedSimpArgs false
open Go Go.Conc Go.RowKit Go.ConcR.Gen Cw

/-- T' is T with slot k anew. -/
def Put (T : Array Value) (k : Nat) (v : Value) (T' : Array Value) : Prop := T'.size = T.size ∧ T'[k]? = some v ∧ ∀ j, j ≠ k → T'[j]? = T[j]?
theorem put_set {T : Array Value} {k : Nat} (v : Value) (h : k < T.size) : Put T k v (T.setIfInBounds k v) := by
  refine ⟨by simp, by simp [h], fun j hj => ?_⟩
  simp [Array.getElem?_setIfInBounds, Ne.symm hj]
theorem getD_of {T : Array Value} {k : Nat} {v : Value} (h : T[k]? = some v) : T.getD k undef = v := by simp [Array.getD_eq_getD_getElem?, h]
theorem chan_of (t e : TypeId) {dir : ChanDir} {i : TypeInfo} (ht : Tryd.prog.underlying t = some (.chan dir e)) (hi : Tryd.prog.info? e = some i) (hb : i.bytes < 100) (w : World) (es : Array Event) :
    (Instr.makeChan t (.int .i64 0)).run Tryd.prog w = .ok (.chan (some w.heap.size)) (w.alloc (.chan 0 #[] false 0 0 false)) ∧ (Instr.makeChan t (.int .i64 0)).events Tryd.prog w es = es :=
  ⟨by simpa using run_makeChan (P := Tryd.prog) (w := w) ht hi .i64 0 (by omega) (by omega), by simpa using events_makeChan (P := Tryd.prog) (w := w) ht hi .i64 0 (by omega) (by omega) es⟩
theorem info_of (t : TypeId) {n : Nat} (h : (Tryd.prog.info? t).map (·.bytes) = some n) : ∃ i, Tryd.prog.info? t = some i ∧ i.bytes = n := by
  obtain ⟨i, hi, hb⟩ := Option.map_eq_some_iff.1 h
  exact ⟨i, hi, hb⟩
theorem chan68 (w : World) (es : Array Event) : (Instr.makeChan 64 (.int .i64 0)).run Tryd.prog w = .ok (.chan (some w.heap.size)) (w.alloc (.chan 0 #[] false 0 0 false)) ∧ (Instr.makeChan 64 (.int .i64 0)).events Tryd.prog w es = es := by
  obtain ⟨i, hi, hb⟩ := info_of 53 (n := 0) (by kernel_rfl)
  exact chan_of 64 53 Tryd.underlying64 hi (by omega) w es
theorem chan69 (w : World) (es : Array Event) : (Instr.makeChan 65 (.int .i64 0)).run Tryd.prog w = .ok (.chan (some w.heap.size)) (w.alloc (.chan 0 #[] false 0 0 false)) ∧ (Instr.makeChan 65 (.int .i64 0)).events Tryd.prog w es = es := by
  obtain ⟨i, hi, hb⟩ := info_of 4 (n := 1) (by kernel_rfl)
  exact chan_of 65 4 Tryd.underlying65 hi (by omega) w es
theorem sz_of (t : TypeId) {n : Nat} (h : (Tryd.prog.info? t).map (·.size) = some n) : ∃ i, Tryd.prog.info? t = some i ∧ i.size = n := by
  obtain ⟨i, hi, hb⟩ := Option.map_eq_some_iff.1 h
  exact ⟨i, hi, hb⟩
abbrev wkV (cr cp : Nat) (e : Bool) : Value := .agg #[.chan (some cr), .chan (some cp), .bool e]
theorem bldW (cr cp : Nat) (w : World) : (Instr.build 67 #[(0, .chan (some cr)), (1, .chan (some cp))]).run Tryd.prog w = .ok (wkV cr cp false) w := run_build w _ _ _ (by kernel_rfl)
theorem bldWE (cr cp : Nat) (w : World) (es : Array Event) : (Instr.build 67 #[(0, .chan (some cr)), (1, .chan (some cp))]).events Tryd.prog w es = es := by
  obtain ⟨it, hit, h1⟩ : ∃ it, Tryd.prog.info? 67 = some it ∧ it.zero = some (.agg #[.chan none, .chan none, .bool false]) := by
    have h : (Tryd.prog.info? 67).map (·.zero) = some (some (.agg #[.chan none, .chan none, .bool false])) := by kernel_rfl
    obtain ⟨i, hi, hb⟩ := Option.map_eq_some_iff.1 h
    exact ⟨i, hi, hb⟩
  obtain ⟨i1, g1, e1⟩ := sz_of 64 (n := 1) (by kernel_rfl)
  obtain ⟨i2, g2, e2⟩ := sz_of 65 (n := 1) (by kernel_rfl)
  obtain ⟨i3, g3, e3⟩ := sz_of 4 (n := 1) (by kernel_rfl)
  simp [Instr.build, go_sem, sizeOf, typeInfo, zeroValue, hit, h1, g1, e1, g2, e2, g3, e3]

noncomputable def ops13 : Array Oper := opsOf (lf (rt blk1))
abbrev fRun (T : Array Value) (k : List Item) : Frame := (base 6).at ⟨T, []⟩ k
section
variable {X : Cx} {Q : World → Prop} {mn : Bool} {N₀ : Nat} {Stop : Goroutine → World → Prop} {m : Nat} {l : List (Nat × Obj)} {T : Array Value} {rest : List Nat} {k : List Item} {cs : List Frame} {w : World}
/-- What a round may lean on. -/
structure Rd0 (X : Cx) (Q : World → Prop) (N₀ : Nat) : Prop where
  rl : ∀ w w', Q w → Rz w w' → Q w'
  fl : Floor X (fun _ => False) N₀
  bx : X.Bx = BxW
  low : ∀ w, Q w → N₀ ≤ w.heap.size
  al : ∀ w o, Q w → Q (w.alloc o)
  set : ∀ w b v, N₀ ≤ b → Q w → Q (w.setCell ⟨b, 0, none⟩ v)
  dr : ∀ w d, Q w → Q (w.at d)
theorem Rd0.alloc (H : Rd0 X Q N₀) (o : Obj) (hF : Q w ∧ ∀ x ∈ l, w.heap[x.1]? = some x.2) : HDq X w (w.alloc o) #[] ∧ N₀ ≤ w.heap.size ∧ (∀ x ∈ l, x.1 ≠ w.heap.size) ∧ Q (w.alloc o) ∧ ∀ x ∈ (w.heap.size, o) :: l, (w.alloc o).heap[x.1]? = some x.2 := by
  have hn := H.low w hF.1
  refine ⟨hdq_alloc (fun a ha => Nat.lt_of_lt_of_le (H.fl.st a ha) hn) (fun c hc => Nat.lt_of_lt_of_le (H.fl.ch c hc) hn) (fun o => Nat.lt_of_lt_of_le (H.fl.wg o) hn) (by simp), hn, fun x hx => Nat.ne_of_lt (Array.getElem?_eq_some_iff.1 (hF.2 x hx)).1, H.al w o hF.1, fun x hx => ?_⟩
  rcases List.mem_cons.1 hx with rfl | hx
  · exact heap_alloc_new w _
  · rw [heap_alloc_old w _ _ (Array.getElem?_eq_some_iff.1 (hF.2 x hx)).1]; exact hF.2 x hx
set_option maxRecDepth 100000
theorem events_store_ptr (P : Program) (w : World) (es : Array Event) (a : Addr) (m : Mode) (p : Option Addr) : (store a (.pointer p) m).events P w es = storedEv P w es a (.pointer p) m := events_store P w es a _ m rfl
theorem c0 (H : Rd0 X Q N₀) (hT : T.size = 79) (hF : Q w ∧ ∀ x ∈ l, w.heap[x.1]? = some x.2)
    (hN : ∀ T' b w', Put T 40 (.chan (some b)) T' → N₀ ≤ b → (∀ x ∈ l, x.1 ≠ b) → (Q w' ∧ ∀ x ∈ (b, Obj.chan 0 #[] false 0 0 false) :: l, w'.heap[x.1]? = some x.2) → Goes Tryd.prog mn Rz (HDq X) Stop m (G (fRun T' (.inRegion ops13 rest :: k)) cs) w') :
    Goes Tryd.prog mn Rz (HDq X) Stop (m + 1) (G (fRun T (.inRegion ops13 (0 :: rest) :: k)) cs) w := by
  refine Goes.step rfl (fun w hr => ?_)
  replace hF := (q_rl H.rl) hF hr
  clear hr
  have hm := (chan68 w #[]).1
  have hm' := fun es => (chan68 w es).2
  revert hN
  simp only [ops13, blk1, rnd1, cd7, bodyM, inner, rt, lf, opsOf, Tryd.f6, Option.getD_some]
  intro hN
  refine goes_oper_k rfl rfl (by k_ne) (fun K hK => ?_)
  go_simp
  obtain ⟨h1, h2, h3, h4⟩ := H.alloc (Obj.chan 0 #[] false 0 0 false) hF
  refine hK _ _ ⟨?_, ?_⟩
  · rw [listed_nil (by simp [go_sem, *])]; exact h1
  · exact hN _ _ _ (put_set _ (by omega)) h2 h3 h4
theorem c1 (H : Rd0 X Q N₀) (hT : T.size = 79) (hF : Q w ∧ ∀ x ∈ l, w.heap[x.1]? = some x.2)
    (hN : ∀ T' b w', Put T 41 (.chan (some b)) T' → N₀ ≤ b → (∀ x ∈ l, x.1 ≠ b) → (Q w' ∧ ∀ x ∈ (b, Obj.chan 0 #[] false 0 0 false) :: l, w'.heap[x.1]? = some x.2) → Goes Tryd.prog mn Rz (HDq X) Stop m (G (fRun T' (.inRegion ops13 rest :: k)) cs) w') :
    Goes Tryd.prog mn Rz (HDq X) Stop (m + 1) (G (fRun T (.inRegion ops13 (1 :: rest) :: k)) cs) w := by
  refine Goes.step rfl (fun w hr => ?_)
  replace hF := (q_rl H.rl) hF hr
  clear hr
  have hm := (chan69 w #[]).1
  have hm' := fun es => (chan69 w es).2
  revert hN
  simp only [ops13, blk1, rnd1, cd7, bodyM, inner, rt, lf, opsOf, Tryd.f6, Option.getD_some]
  intro hN
  refine goes_oper_k rfl rfl (by k_ne) (fun K hK => ?_)
  go_simp
  obtain ⟨h1, h2, h3, h4⟩ := H.alloc (Obj.chan 0 #[] false 0 0 false) hF
  refine hK _ _ ⟨?_, ?_⟩
  · rw [listed_nil (by simp [go_sem, *])]; exact h1
  · exact hN _ _ _ (put_set _ (by omega)) h2 h3 h4
theorem c2 (H : Rd0 X Q N₀) (hT : T.size = 79) (hF : Q w ∧ ∀ x ∈ l, w.heap[x.1]? = some x.2) {cr cp : Nat} (h40 : T[40]? = some (.chan (some cr))) (h41 : T[41]? = some (.chan (some cp)))
    (hN : ∀ T' w', Put T 42 (wkV cr cp false) T' → (Q w' ∧ ∀ x ∈ l, w'.heap[x.1]? = some x.2) → Goes Tryd.prog mn Rz (HDq X) Stop m (G (fRun T' (.inRegion ops13 rest :: k)) cs) w') :
    Goes Tryd.prog mn Rz (HDq X) Stop (m + 1) (G (fRun T (.inRegion ops13 (2 :: rest) :: k)) cs) w := by
  refine Goes.step rfl (fun w hr => ?_)
  replace hF := (q_rl H.rl) hF hr
  clear hr
  have g40 : ∀ h, T[40]'h = _ := fun h => (Array.getElem?_eq_some_iff.1 h40).2
  have g41 : ∀ h, T[41]'h = _ := fun h => (Array.getElem?_eq_some_iff.1 h41).2
  have hm := bldW cr cp w
  have hm' := bldWE cr cp w
  revert hN
  simp only [ops13, blk1, rnd1, cd7, bodyM, inner, rt, lf, opsOf, Tryd.f6, Option.getD_some]
  intro hN
  refine goes_oper_k rfl rfl (by k_ne) (fun K hK => ?_)
  go_simp
  refine hK _ _ ⟨?_, ?_⟩
  · rw [listed_nil (by simp [go_sem, *])]; exact hdq_idle _ _
  · exact hN _ _ (put_set _ (by omega)) hF
theorem c3 (H : Rd0 X Q N₀) (hT : T.size = 79) (hF : Q w ∧ ∀ x ∈ l, w.heap[x.1]? = some x.2) {cr cp : Nat} (h42 : T[42]? = some (wkV cr cp false))
    (hN : ∀ T' b w', Put T 43 (pb b) T' → N₀ ≤ b → (∀ x ∈ l, x.1 ≠ b) → (Q w' ∧ ∀ x ∈ (b, Obj.cells #[.chan (some cr), .chan (some cp), .bool false] 67 (0, 0)) :: l, w'.heap[x.1]? = some x.2) → Goes Tryd.prog mn Rz (HDq X) Stop m (G (fRun T' (.inRegion ops13 rest :: k)) cs) w') :
    Goes Tryd.prog mn Rz (HDq X) Stop (m + 1) (G (fRun T (.inRegion ops13 (3 :: rest) :: k)) cs) w := by
  refine Goes.step rfl (fun w hr => ?_)
  replace hF := (q_rl H.rl) hF hr
  clear hr
  replace h42 := getD_of h42
  revert hN
  simp only [ops13, blk1, rnd1, cd7, bodyM, inner, rt, lf, opsOf, Tryd.f6, Option.getD_some]
  intro hN
  refine goes_oper_k rfl rfl (by k_ne) (fun K hK => ?_)
  go_simp
  obtain ⟨h1, h2, h3, h4⟩ := H.alloc (Obj.cells #[.chan (some cr), .chan (some cp), .bool false] 67 (0, 0)) hF
  refine hK _ _ ⟨?_, ?_⟩
  · rw [listed_nil (by simp [go_sem, *])]; exact h1
  · exact hN _ _ _ (put_set _ (by omega)) h2 h3 h4
theorem c4 (H : Rd0 X Q N₀) (hT : T.size = 79) (hF : Q w ∧ ∀ x ∈ l, w.heap[x.1]? = some x.2)
    (hN : ∀ T' b w', Put T 11 (pb b) T' → N₀ ≤ b → (∀ x ∈ l, x.1 ≠ b) → (Q w' ∧ ∀ x ∈ (b, Obj.cells #[.pointer none] 63 (0, 0)) :: l, w'.heap[x.1]? = some x.2) → Goes Tryd.prog mn Rz (HDq X) Stop m (G (fRun T' (.inRegion ops13 rest :: k)) cs) w') :
    Goes Tryd.prog mn Rz (HDq X) Stop (m + 1) (G (fRun T (.inRegion ops13 (4 :: rest) :: k)) cs) w := by
  refine Goes.step rfl (fun w hr => ?_)
  replace hF := (q_rl H.rl) hF hr
  clear hr
  revert hN
  simp only [ops13, blk1, rnd1, cd7, bodyM, inner, rt, lf, opsOf, Tryd.f6, Option.getD_some]
  intro hN
  refine goes_oper_k rfl rfl (by k_ne) (fun K hK => ?_)
  go_simp
  obtain ⟨h1, h2, h3, h4⟩ := H.alloc (Obj.cells #[.pointer none] 63 (0, 0)) hF
  refine hK _ _ ⟨?_, ?_⟩
  · rw [listed_nil (by simp [go_sem, *])]; exact h1
  · exact hN _ _ _ (put_set _ (by omega)) h2 h3 h4
theorem c5 (H : Rd0 X Q N₀) (hT : T.size = 79) (hF : Q w ∧ ∀ x ∈ l, w.heap[x.1]? = some x.2) {bw bs : Nat} (hbw : N₀ ≤ bw) (h11 : T[11]? = some (pb bw)) (h43 : T[43]? = some (pb bs)) (hm : (bw, Obj.cells #[.pointer none] 63 (0, 0)) ∈ l)
    (hN : ∀ w', Q w' → w'.heap[bw]? = some (.cells #[pb bs] 63 (0, 0)) → (∀ x ∈ l, x.1 ≠ bw → w'.heap[x.1]? = some x.2) → Goes Tryd.prog mn Rz (HDq X) Stop m (G (fRun T (.inRegion ops13 rest :: k)) cs) w') :
    Goes Tryd.prog mn Rz (HDq X) Stop (m + 1) (G (fRun T (.inRegion ops13 (5 :: rest) :: k)) cs) w := by
  refine Goes.step rfl (fun w hr => ?_)
  replace hF := (q_rl H.rl) hF hr
  clear hr
  replace h11 := getD_of h11
  replace h43 := getD_of h43
  have hb := hF.2 _ hm
  simp only at hb
  have hc : w.cell? ⟨bw, 0, none⟩ = some (.pointer none) := by simp [World.cell?, hb]
  have hz : w.frozen? ⟨bw, 0, none⟩ = false := by simp [World.frozen?, hb]
  revert hN
  simp only [ops13, blk1, rnd1, cd7, bodyM, inner, rt, lf, opsOf, Tryd.f6, Option.getD_some]
  intro hN
  refine goes_oper_k rfl rfl (by k_ne) (fun K hK => ?_)
  go_simp
  try (unfold stored; go_simp)
  refine hK _ _ ⟨?_, ?_⟩
  · refine (H.fl.ok hbw).write (block_of_cell hc) ?_ (fun e he => ?_)
    · rintro ⟨v, ty', hv, hb', _⟩
      rw [hb] at hv
      cases hv
      rw [H.bx] at hb'
      rcases hb' with ⟨v1, e1, e | ⟨_, e⟩⟩ | e
      · cases e
      · exact e (by simpa using e1.symm)
      · cases e
    · have hm := mem_listed he
      simp [go_sem, events_store_ptr, storedEv, *] at hm
      exact hm
  · refine hN _ (H.set w _ _ hbw hF.1) ?_ fun x hx hne => ?_
    · simp [World.setCell, Array.getElem?_modify, hb]
    · rw [heap_setCell_ne w _ _ hne]; exact hF.2 x hx
end
end
end Go.Proofs.YtggfcdhkgldbfaaDoor
