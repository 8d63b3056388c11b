/-
  PARTS of a claim, merged by segs.py: NwBeg.
-/
import Derived.Test.YtggfcdhkgldbfaaN28
import Derived.Test.YtggfcdhkgldbfaaN29
namespace Go.Proofs.Ytggfcdhkgldbfaa
set_option linter.unusedSimpArgs false
set_option linter.unusedVariables false

/-! ### NwBeg -/
section
set_option linter.unusedSimpArgs false
open Go Go.Conc Go.RowKit Go.ConcR.Gen Cw

/-- The world of the beginning, and some blocks of the call's own. -/
def Kn (V : Nat → Prop) (W : World) (l : List (Nat × Obj)) (w : World) : Prop := Ext V W w ∧ ∀ x ∈ l, W.heap.size ≤ x.1 ∧ w.heap[x.1]? = some x.2
section
variable {X : Cx} {V : Nat → Prop} {W w w' : World} {l : List (Nat × Obj)}
theorem Kn.rl (hv : ∀ b, W.heap.size ≤ b → ¬ V b) (h : Kn V W l w) (r : Ext V w w') : Kn V W l w' := ⟨h.1.trans r, fun x hx => ⟨(h.2 x hx).1, (r.same _ (Array.getElem?_eq_some_iff.1 (h.2 x hx).2).1 (hv _ (h.2 x hx).1)).trans (h.2 x hx).2⟩⟩
theorem Kn.alloc (h : Kn V W l w) (o : Obj) : Kn V W ((w.heap.size, o) :: l) (w.alloc o) := by
  refine ⟨ext_allocg h.1 o, fun x hx => ?_⟩
  rcases List.mem_cons.1 hx with rfl | hx
  · exact ⟨h.1.size, heap_alloc_new w _⟩
  · exact ⟨(h.2 x hx).1, (heap_alloc_old w _ _ (Array.getElem?_eq_some_iff.1 (h.2 x hx).2).1).trans (h.2 x hx).2⟩
/-- A cell of one of them is written. -/
theorem Kn.set {b : Nat} {v v' : Value} {ty : TypeId} (h : Kn V W ((b, .cells #[v] ty) :: l) w) (hne : ∀ x ∈ l, x.1 ≠ b) : Kn V W ((b, .cells #[v'] ty) :: l) (w.setCell ⟨b, 0, none⟩ v') := by
  have hb := h.2 (b, .cells #[v] ty) (by simp)
  simp only at hb
  refine ⟨⟨by rw [size_setCell']; exact h.1.size, fun x hx hxv => ?_, h.1.tape, h.1.os, h.1.output⟩, fun x hx => ?_⟩
  · rw [heap_setCell_ne w _ _ (by show x ≠ b; omega)]
    exact h.1.same x hx hxv
  · rcases List.mem_cons.1 hx with rfl | hx
    · exact ⟨hb.1, by simp [World.setCell, Array.getElem?_modify, hb.2]⟩
    · exact ⟨(h.2 x (by simp [hx])).1, by rw [heap_setCell_ne w _ _ (hne x hx)]; exact (h.2 x (by simp [hx])).2⟩
theorem Kn.ne {x y : Nat × Obj} (h : Kn V W l w) (hx : x ∈ l) (hy : y ∈ l) (hne : x.2 ≠ y.2) : x.1 ≠ y.1 := fun e => hne (Option.some.inj (by rw [← (h.2 x hx).2, e, (h.2 y hy).2]))
theorem evInfo : ∃ it, Try.prog.info? 40 = some it ∧ it.zero = some (.agg #[.int .i64 0, .string .empty]) ∧ it.size = 2 ∧ it.bytes = 24 := infoEv
theorem bs0 (w : World) : (Instr.buildSlice 28 0 #[]).run Try.prog w = .ok (.slice (some ⟨w.heap.size, 0, none⟩) 0 0) (w.alloc (.cells #[] 40)) := by
  obtain ⟨it, hit, h1, h2, _⟩ := infoEv
  simp [Instr.buildSlice, go_sem, sizeOf, typeInfo, zeroValue, hit, h1, h2, newRow, Try.underlying28, Instr.fill]
theorem bs0E (w : World) (es : Array Event) : (Instr.buildSlice 28 0 #[]).events Try.prog w es = es := by
  obtain ⟨it, hit, h1, h2, _⟩ := infoEv
  simp [Instr.buildSlice, go_sem, sizeOf, typeInfo, zeroValue, hit, h1, h2, newRow, Try.underlying28, Instr.fill]
theorem pwInfo : ∃ i, Try.prog.info? 67 = some i ∧ i.zero = some (.pointer none) ∧ i.size = 1 ∧ i.bytes = 8 := by
  have h : (Try.prog.info? 67).map (fun i => (i.zero, i.size, i.bytes)) = some (some (.pointer none), 1, 8) := by kernel_rfl
  obtain ⟨i, hi, hb⟩ := Option.map_eq_some_iff.1 h
  simp at hb
  exact ⟨i, hi, hb⟩
/-- The row of workers, made. -/
abbrev mkW (n : Nat) : Obj := .cells (madeCells #[.pointer none] n) 67 (0, 0)
theorem mks (n : Nat) (hn : n ≤ 64) (w : World) (es : Array Event) : (Instr.makeSlice 56 (.int .i64 n) (.int .i64 n)).run Try.prog w = .ok (.slice (some ⟨w.heap.size, 0, none⟩) n n) (w.alloc (mkW n)) ∧ (Instr.makeSlice 56 (.int .i64 n) (.int .i64 n)).events Try.prog w es = es := by
  obtain ⟨i, hi, h0, h1, h2⟩ := pwInfo
  refine ⟨?_, events_make w _ _ i _ Try.underlying56 hi h0 .i64 .i64 n n (by omega) (by omega) (by rw [h2]; omega) (by omega) (by rw [h2]; simp; omega) es⟩
  have := run_make (P := Try.prog) w 56 67 i _ Try.underlying56 hi h0 .i64 .i64 n n (by omega) (by omega) (by rw [h2]; omega) (by omega)
  rw [h1] at this
  have e : (Value.pointer none).cells = #[.pointer none] := rfl
  rw [e] at this
  simpa using this
end
noncomputable def cdR (i : Nat) : Code := (List.range i).foldl (fun c _ => rt c) bodyM
noncomputable def opsF : Array Oper := opsOf (lf (lf (rt (rt (rt bodyM)))))
set_option maxRecDepth 100000 in
set_option maxHeartbeats 2000000 in
/-- To the call of ContainsFunc on the tasks. -/
theorem r_begin1 {X : Cx} {V : Nat → Prop} {W : World} {mn : Bool} (hS : Wd X V W) {al ap : Option Addr} {n np tcap pcap : Nat} (hn : n ≤ 64) (hnp : np ≤ 4096) (cs : List Frame) (w : World) (hF : Kn V W [] w) :
    Goes Try.prog mn (Ext V) (HDq X) (fun g w => ∃ tb T, (T.size = 79 ∧ T[0]? = some (.slice ap np pcap) ∧ T[3]? = some (pb tb) ∧ T[24]? = some (.slice al n tcap)) ∧ g = G (fRun T (.inRegion (opsOf (lf (lf (rt (rt bodyM))))) [1] :: .code (rt (lf (rt (rt bodyM)))) :: .code (rt (rt (rt bodyM))) :: [])) cs ∧ Kn V W [(tb, Obj.cells #[.slice al n tcap] 32 (0, 0))] w) 40
      (G (fRun #[.slice ap np pcap, .slice al n tcap, undef, undef, undef, undef, undef, undef, undef, undef, undef, undef, undef, undef, undef, undef, undef, undef, undef, undef, undef, undef, undef, undef, undef, undef, undef, undef, undef, undef, undef, undef, undef, undef, undef, undef, undef, undef, undef, undef, undef, undef, undef, undef, undef, undef, undef, undef, undef, undef, undef, undef, undef, undef, undef, undef, undef, undef, undef, undef, undef, undef, undef, undef, undef, undef, undef, undef, undef, undef, undef, undef, undef, undef, undef, undef, undef, undef, undef] [.code bodyM]) cs) w := by
  have h64 : decide ((64 : Int) < (n : Int)) = false := by simp; omega
  have h4096 : decide ((4096 : Int) < (np : Int)) = false := by simp; omega
  simp only [fRun, bodyM, inner, rt, lf, opsOf, Try.f10, Option.getD_some]
  refine Goes.step rfl (fun w hr => ?_)
  replace hF := (fun h r => Kn.rl (fun _ => hS.own) h r) hF hr
  clear hr
  rw [stepG_seq]
  simp only [goes_go]
  refine ⟨hdq_idle _ _, ?_⟩
  refine Goes.step rfl (fun w hr => ?_)
  replace hF := (fun h r => Kn.rl (fun _ => hS.own) h r) hF hr
  clear hr
  rw [stepG_region]
  simp only [goes_go, List.size_toArray, List.length_cons, List.length_nil, Nat.reduceAdd, Nat.zero_add, List.range, List.range.loop]
  refine ⟨hdq_idle _ _, ?_⟩
  refine Goes.step rfl (fun w hr => ?_)
  replace hF := (fun h r => Kn.rl (fun _ => hS.own) h r) hF hr
  clear hr
  refine goes_oper_k rfl rfl (by k_ne) (fun K hK => ?_)
  go_simp
  refine hK _ _ ⟨?_, ?_⟩
  · rw [listed_nil (by simp [go_sem, *])]
    exact al_hdg hS hF.1.size (by simp)
  clear hK K
  try walk_nrm
  replace hF := hF.alloc (Obj.cells #[.slice al n tcap] 32 (0, 0))
  generalize w.heap.size = tb at *
  generalize w.alloc (Obj.cells #[.slice al n tcap] 32 (0, 0)) = w at *
  refine Goes.step rfl (fun w hr => ?_)
  replace hF := (fun h r => Kn.rl (fun _ => hS.own) h r) hF hr
  clear hr
  refine goes_oper_k rfl rfl (by k_ne) (fun K hK => ?_)
  go_simp
  refine hK _ _ ⟨?_, ?_⟩
  · rw [listed_nil (by simp [go_sem])]; exact hdq_idle _ _
  clear hK K
  try walk_nrm
  refine Goes.step rfl (fun w hr => ?_)
  replace hF := (fun h r => Kn.rl (fun _ => hS.own) h r) hF hr
  clear hr
  refine goes_oper_k rfl rfl (by k_ne) (fun K hK => ?_)
  go_simp
  refine hK _ _ ⟨?_, ?_⟩
  · rw [listed_nil (by simp [go_sem])]; exact hdq_idle _ _
  clear hK K
  try walk_nrm
  refine Goes.step rfl (fun w hr => ?_)
  replace hF := (fun h r => Kn.rl (fun _ => hS.own) h r) hF hr
  clear hr
  rw [stepG_region_end]
  simp only [goes_go]
  refine ⟨hdq_idle _ _, ?_⟩
  refine Goes.step rfl (fun w hr => ?_)
  replace hF := (fun h r => Kn.rl (fun _ => hS.own) h r) hF hr
  clear hr
  rw [stepG_seq]
  simp only [goes_go]
  refine ⟨hdq_idle _ _, ?_⟩
  refine Goes.step rfl (fun w hr => ?_)
  replace hF := (fun h r => Kn.rl (fun _ => hS.own) h r) hF hr
  clear hr
  rw [stepG_seq]
  simp only [goes_go]
  refine ⟨hdq_idle _ _, ?_⟩
  refine Goes.step rfl (fun w hr => ?_)
  replace hF := (fun h r => Kn.rl (fun _ => hS.own) h r) hF hr
  clear hr
  rw [stepG_region]
  simp only [goes_go, List.size_toArray, List.length_cons, List.length_nil, Nat.reduceAdd, Nat.zero_add, List.range, List.range.loop]
  refine ⟨hdq_idle _ _, ?_⟩
  refine Goes.step rfl (fun w hr => ?_)
  replace hF := (fun h r => Kn.rl (fun _ => hS.own) h r) hF hr
  clear hr
  have hbx := hF.2 (tb, Obj.cells #[.slice al n tcap] 32 (0, 0)) (by simp)
  have hc : w.cell? ⟨tb, 0, none⟩ = some (.slice al n tcap) := by simp [World.cell?, hbx.2]
  refine goes_oper_k rfl rfl (by k_ne) (fun K hK => ?_)
  go_simp
  refine hK _ _ ⟨?_, ?_⟩
  · refine rd_owng hS hbx.1 (block_of_cell hc) (fun e he => ?_)
    have hm := mem_listed he
    simp [go_sem, *] at hm
    exact hm
  clear hK K hc hbx
  try walk_nrm
  refine Goes.step rfl (fun w hr => ?_)
  replace hF := (fun h r => Kn.rl (fun _ => hS.own) h r) hF hr
  clear hr
  refine goes_oper_k rfl rfl (by k_ne) (fun K hK => ?_)
  go_simp
  refine hK _ _ ⟨?_, ?_⟩
  · rw [listed_nil (by simp [go_sem])]; exact hdq_idle _ _
  clear hK K
  try walk_nrm
  refine Goes.step rfl (fun w hr => ?_)
  replace hF := (fun h r => Kn.rl (fun _ => hS.own) h r) hF hr
  clear hr
  refine goes_oper_k rfl rfl (by k_ne) (fun K hK => ?_)
  go_simp
  refine hK _ _ ⟨?_, ?_⟩
  · rw [listed_nil (by simp [go_sem, *])]; exact hdq_idle _ _
  clear hK K
  try walk_nrm
  try simp only [h64]
  refine Goes.step rfl (fun w hr => ?_)
  replace hF := (fun h r => Kn.rl (fun _ => hS.own) h r) hF hr
  clear hr
  refine goes_oper_k rfl rfl (by k_ne) (fun K hK => ?_)
  go_simp
  refine hK _ _ ⟨?_, ?_⟩
  · rw [listed_nil (by simp [go_sem])]; exact hdq_idle _ _
  clear hK K
  try walk_nrm
  refine Goes.step rfl (fun w hr => ?_)
  replace hF := (fun h r => Kn.rl (fun _ => hS.own) h r) hF hr
  clear hr
  refine goes_oper_k rfl rfl (by k_ne) (fun K hK => ?_)
  go_simp
  refine hK _ _ ⟨?_, ?_⟩
  · rw [listed_nil (by simp [go_sem])]; exact hdq_idle _ _
  clear hK K
  try walk_nrm
  refine Goes.step rfl (fun w hr => ?_)
  replace hF := (fun h r => Kn.rl (fun _ => hS.own) h r) hF hr
  clear hr
  refine goes_oper_k rfl rfl (by k_ne) (fun K hK => ?_)
  go_simp
  refine hK _ _ ⟨?_, ?_⟩
  · rw [listed_nil (by simp [go_sem])]; exact hdq_idle _ _
  clear hK K
  try walk_nrm
  refine Goes.step rfl (fun w hr => ?_)
  replace hF := (fun h r => Kn.rl (fun _ => hS.own) h r) hF hr
  clear hr
  refine goes_oper_k rfl rfl (by k_ne) (fun K hK => ?_)
  go_simp
  refine hK _ _ ⟨?_, ?_⟩
  · rw [listed_nil (by simp [go_sem, *])]; exact hdq_idle _ _
  clear hK K
  try walk_nrm
  try simp only [h4096]
  refine Goes.step rfl (fun w hr => ?_)
  replace hF := (fun h r => Kn.rl (fun _ => hS.own) h r) hF hr
  clear hr
  refine goes_oper_k rfl rfl (by k_ne) (fun K hK => ?_)
  go_simp
  refine hK _ _ ⟨?_, ?_⟩
  · rw [listed_nil (by simp [go_sem])]; exact hdq_idle _ _
  clear hK K
  try walk_nrm
  refine Goes.step rfl (fun w hr => ?_)
  replace hF := (fun h r => Kn.rl (fun _ => hS.own) h r) hF hr
  clear hr
  rw [stepG_region_end]
  simp only [goes_go]
  refine ⟨hdq_idle _ _, ?_⟩
  refine Goes.step rfl (fun w hr => ?_)
  replace hF := (fun h r => Kn.rl (fun _ => hS.own) h r) hF hr
  clear hr
  rw [stepG_cond (t := false) (by first | rfl | (simp [Act.eval]; omega))]
  simp only [goes_go, if_true, if_false, Bool.false_eq_true, ↓reduceIte]
  refine ⟨hdq_idle _ _, ?_⟩
  refine Goes.step rfl (fun w hr => ?_)
  replace hF := (fun h r => Kn.rl (fun _ => hS.own) h r) hF hr
  clear hr
  rw [stepG_skip]
  simp only [goes_go]
  refine ⟨hdq_idle _ _, ?_⟩
  refine Goes.step rfl (fun w hr => ?_)
  replace hF := (fun h r => Kn.rl (fun _ => hS.own) h r) hF hr
  clear hr
  rw [stepG_seq]
  simp only [goes_go]
  refine ⟨hdq_idle _ _, ?_⟩
  refine Goes.step rfl (fun w hr => ?_)
  replace hF := (fun h r => Kn.rl (fun _ => hS.own) h r) hF hr
  clear hr
  rw [stepG_seq]
  simp only [goes_go]
  refine ⟨hdq_idle _ _, ?_⟩
  refine Goes.step rfl (fun w hr => ?_)
  replace hF := (fun h r => Kn.rl (fun _ => hS.own) h r) hF hr
  clear hr
  rw [stepG_region]
  simp only [goes_go, List.size_toArray, List.length_cons, List.length_nil, Nat.reduceAdd, Nat.zero_add, List.range, List.range.loop]
  refine ⟨hdq_idle _ _, ?_⟩
  refine Goes.step rfl (fun w hr => ?_)
  replace hF := (fun h r => Kn.rl (fun _ => hS.own) h r) hF hr
  clear hr
  have hbx := hF.2 (tb, Obj.cells #[.slice al n tcap] 32 (0, 0)) (by simp)
  have hc : w.cell? ⟨tb, 0, none⟩ = some (.slice al n tcap) := by simp [World.cell?, hbx.2]
  refine goes_oper_k rfl rfl (by k_ne) (fun K hK => ?_)
  go_simp
  refine hK _ _ ⟨?_, ?_⟩
  · refine rd_owng hS hbx.1 (block_of_cell hc) (fun e he => ?_)
    have hm := mem_listed he
    simp [go_sem, *] at hm
    exact hm
  clear hK K hc hbx
  try walk_nrm
  refine Goes.stop (fun w hr => ⟨tb, _, ⟨?_, ?_, ?_, ?_⟩, rfl, hF.rl (fun _ => hS.own) hr⟩) <;> rfl
set_option maxRecDepth 100000 in
set_option maxHeartbeats 2000000 in
/-- To the call of ContainsFunc on the picks. -/
theorem r_begin2 {X : Cx} {V : Nat → Prop} {W : World} {mn : Bool} (hS : Wd X V W) {al ap : Option Addr} {n np tcap pcap tb kc : Nat} (cs : List Frame) (w : World) (hF : Kn V W [(tb, Obj.cells #[.slice al n tcap] 32 (0, 0))] w) (T : Array Value) (hT : T.size = 79) (h0 : T[0]? = some (.slice ap np pcap)) (h3 : T[3]? = some (pb tb)) (h24 : T[24]? = some (.slice al n tcap))
    (hkc : ∀ w', Ext V w w' → CallsC Try.prog mn (Ext V) (HDq X) 14 #[.slice al n tcap, .func (.func 15) #[] #[]] kc w' (fun r w'' => r = .bool false ∧ Ext V w w'')) :
    Goes Try.prog mn (Ext V) (HDq X) (fun g w => ∃ T, (T.size = 79 ∧ T[0]? = some (.slice ap np pcap) ∧ T[3]? = some (pb tb) ∧ T[26]? = some (.slice ap np pcap) ∧ T[27]? = some (.func (.func 17) #[] #[pb tb])) ∧ g = G (fRun T (.inRegion opsF [2] :: .code (rt (lf (rt (rt (rt bodyM))))) :: .code (rt (rt (rt (rt bodyM)))) :: [])) cs ∧ Kn V W [(tb, Obj.cells #[.slice al n tcap] 32 (0, 0))] w) (20 + kc + 3)
      (G (fRun T (.inRegion (opsOf (lf (lf (rt (rt bodyM))))) [1] :: .code (rt (lf (rt (rt bodyM)))) :: .code (rt (rt (rt bodyM))) :: [])) cs) w := by
  obtain ⟨v0, v1, v2, v3, v4, v5, v6, v7, v8, v9, v10, v11, v12, v13, v14, v15, v16, v17, v18, v19, v20, v21, v22, v23, v24, v25, v26, v27, v28, v29, v30, v31, v32, v33, v34, v35, v36, v37, v38, v39, v40, v41, v42, v43, v44, v45, v46, v47, v48, v49, v50, v51, v52, v53, v54, v55, v56, v57, v58, v59, v60, v61, v62, v63, v64, v65, v66, v67, v68, v69, v70, v71, v72, v73, v74, v75, v76, v77, v78, rfl⟩ := array79 T hT
  simp only [List.getElem?_toArray, List.getElem?_cons_zero, List.getElem?_cons_succ, Option.some.injEq] at h0 h3 h24
  subst h0
  subst h3
  subst h24
  simp only [fRun, opsF, bodyM, inner, rt, lf, opsOf, Try.f10, Option.getD_some]
  refine Goes.mono (n := 20 + kc + 3) ?_ (by omega)
  refine Goes.call (hdq_terms X V) (f := 14) (args := #[.tmp 24, .func 15]) (ats := #[32, 53]) rfl rfl (by k_ne) rfl (by simp only [List.map_toArray, List.map_cons, List.map_nil, Act.eval]; exact hkc _ (Ext.refl V w)) (fun v w' hv => ?_)
  obtain ⟨rfl, hE⟩ := hv
  replace hF := hF.rl (fun _ => hS.own) hE
  clear hE hkc
  generalize w' = w at *
  try walk_nrm
  refine Goes.step rfl (fun w hr => ?_)
  replace hF := (fun h r => Kn.rl (fun _ => hS.own) h r) hF hr
  clear hr
  rw [stepG_region_end]
  simp only [goes_go]
  refine ⟨hdq_idle _ _, ?_⟩
  refine Goes.step rfl (fun w hr => ?_)
  replace hF := (fun h r => Kn.rl (fun _ => hS.own) h r) hF hr
  clear hr
  rw [stepG_cond (t := false) (by first | rfl | (simp [Act.eval]; omega))]
  simp only [goes_go, if_true, if_false, Bool.false_eq_true, ↓reduceIte]
  refine ⟨hdq_idle _ _, ?_⟩
  refine Goes.step rfl (fun w hr => ?_)
  replace hF := (fun h r => Kn.rl (fun _ => hS.own) h r) hF hr
  clear hr
  rw [stepG_skip]
  simp only [goes_go]
  refine ⟨hdq_idle _ _, ?_⟩
  refine Goes.step rfl (fun w hr => ?_)
  replace hF := (fun h r => Kn.rl (fun _ => hS.own) h r) hF hr
  clear hr
  rw [stepG_seq]
  simp only [goes_go]
  refine ⟨hdq_idle _ _, ?_⟩
  refine Goes.step rfl (fun w hr => ?_)
  replace hF := (fun h r => Kn.rl (fun _ => hS.own) h r) hF hr
  clear hr
  rw [stepG_seq]
  simp only [goes_go]
  refine ⟨hdq_idle _ _, ?_⟩
  refine Goes.step rfl (fun w hr => ?_)
  replace hF := (fun h r => Kn.rl (fun _ => hS.own) h r) hF hr
  clear hr
  rw [stepG_region]
  simp only [goes_go, List.size_toArray, List.length_cons, List.length_nil, Nat.reduceAdd, Nat.zero_add, List.range, List.range.loop]
  refine ⟨hdq_idle _ _, ?_⟩
  refine Goes.step rfl (fun w hr => ?_)
  replace hF := (fun h r => Kn.rl (fun _ => hS.own) h r) hF hr
  clear hr
  refine goes_oper_k rfl rfl (by k_ne) (fun K hK => ?_)
  go_simp
  refine hK _ _ ⟨?_, ?_⟩
  · rw [listed_nil (by simp [go_sem])]; exact hdq_idle _ _
  clear hK K
  try walk_nrm
  refine Goes.step rfl (fun w hr => ?_)
  replace hF := (fun h r => Kn.rl (fun _ => hS.own) h r) hF hr
  clear hr
  refine goes_oper_k rfl rfl (by k_ne) (fun K hK => ?_)
  go_simp
  refine hK _ _ ⟨?_, ?_⟩
  · rw [listed_nil (by simp [go_sem])]; exact hdq_idle _ _
  clear hK K
  try walk_nrm
  refine Goes.stop (fun w hr => ⟨_, ⟨?_, ?_, ?_, ?_, ?_⟩, rfl, hF.rl (fun _ => hS.own) hr⟩) <;> rfl
set_option maxRecDepth 100000 in
set_option maxHeartbeats 2000000 in
/-- To the making of the group. -/
theorem r_begin3 {X : Cx} {V : Nat → Prop} {W : World} {mn : Bool} (hS : Wd X V W) {al ap : Option Addr} {n np tcap pcap tb kc : Nat} (hn : n ≤ 64) (cs : List Frame) (w : World) (hF : Kn V W [(tb, Obj.cells #[.slice al n tcap] 32 (0, 0))] w) (T : Array Value) (hT : T.size = 79) (h0 : T[0]? = some (.slice ap np pcap)) (h3 : T[3]? = some (pb tb)) (h26 : T[26]? = some (.slice ap np pcap)) (h27 : T[27]? = some (.func (.func 17) #[] #[pb tb]))
    (hkc : ∀ w', Ext V w w' → CallsC Try.prog mn (Ext V) (HDq X) 16 #[.slice ap np pcap, .func (.func 17) #[] #[pb tb]] kc w' (fun r w'' => r = .bool false ∧ Ext V w w'')) :
    Goes Try.prog mn (Ext V) (HDq X) (fun g w => ∃ eb ev wb T, (T.size = 79 ∧ T[0]? = some (.slice ap np pcap) ∧ T[3]? = some (pb tb) ∧ T[6]? = some (pb ev) ∧ T[7]? = some (.slice (some ⟨wb, 0, none⟩) n n)) ∧ g = G (fRun T (.inRegion (opsOf (lf (rt (rt (rt (rt (rt (rt bodyM)))))))) [0] :: .code cd7 :: [])) cs ∧ Kn V W [(wb, mkW n), (ev, Obj.cells #[.slice (some ⟨eb, 0, none⟩) 0 0] 28 (0, 0)), (eb, Obj.cells #[] 40 (0, 0)), (tb, Obj.cells #[.slice al n tcap] 32 (0, 0))] w) (30 + kc + 3)
      (G (fRun T (.inRegion opsF [2] :: .code (rt (lf (rt (rt (rt bodyM))))) :: .code (rt (rt (rt (rt bodyM)))) :: [])) cs) w := by
  obtain ⟨v0, v1, v2, v3, v4, v5, v6, v7, v8, v9, v10, v11, v12, v13, v14, v15, v16, v17, v18, v19, v20, v21, v22, v23, v24, v25, v26, v27, v28, v29, v30, v31, v32, v33, v34, v35, v36, v37, v38, v39, v40, v41, v42, v43, v44, v45, v46, v47, v48, v49, v50, v51, v52, v53, v54, v55, v56, v57, v58, v59, v60, v61, v62, v63, v64, v65, v66, v67, v68, v69, v70, v71, v72, v73, v74, v75, v76, v77, v78, rfl⟩ := array79 T hT
  simp only [List.getElem?_toArray, List.getElem?_cons_zero, List.getElem?_cons_succ, Option.some.injEq] at h0 h3 h26 h27
  subst h0
  subst h3
  subst h26
  subst h27
  simp only [fRun, opsF, cd7, bodyM, inner, rt, lf, opsOf, Try.f10, Option.getD_some]
  refine Goes.mono (n := 30 + kc + 3) ?_ (by omega)
  refine Goes.call (hdq_terms X V) (f := 16) (args := #[.tmp 26, .tmp 27]) (ats := #[24, 55]) rfl rfl (by k_ne) rfl (by simp only [List.map_toArray, List.map_cons, List.map_nil, Act.eval]; exact hkc _ (Ext.refl V w)) (fun v w' hv => ?_)
  obtain ⟨rfl, hE⟩ := hv
  replace hF := hF.rl (fun _ => hS.own) hE
  clear hE hkc
  generalize w' = w at *
  try walk_nrm
  refine Goes.step rfl (fun w hr => ?_)
  replace hF := (fun h r => Kn.rl (fun _ => hS.own) h r) hF hr
  clear hr
  rw [stepG_region_end]
  simp only [goes_go]
  refine ⟨hdq_idle _ _, ?_⟩
  refine Goes.step rfl (fun w hr => ?_)
  replace hF := (fun h r => Kn.rl (fun _ => hS.own) h r) hF hr
  clear hr
  rw [stepG_cond (t := false) (by first | rfl | (simp [Act.eval]; omega))]
  simp only [goes_go, if_true, if_false, Bool.false_eq_true, ↓reduceIte]
  refine ⟨hdq_idle _ _, ?_⟩
  refine Goes.step rfl (fun w hr => ?_)
  replace hF := (fun h r => Kn.rl (fun _ => hS.own) h r) hF hr
  clear hr
  rw [stepG_skip]
  simp only [goes_go]
  refine ⟨hdq_idle _ _, ?_⟩
  refine Goes.step rfl (fun w hr => ?_)
  replace hF := (fun h r => Kn.rl (fun _ => hS.own) h r) hF hr
  clear hr
  rw [stepG_seq]
  simp only [goes_go]
  refine ⟨hdq_idle _ _, ?_⟩
  refine Goes.step rfl (fun w hr => ?_)
  replace hF := (fun h r => Kn.rl (fun _ => hS.own) h r) hF hr
  clear hr
  rw [stepG_region]
  simp only [goes_go, List.size_toArray, List.length_cons, List.length_nil, Nat.reduceAdd, Nat.zero_add, List.range, List.range.loop]
  refine ⟨hdq_idle _ _, ?_⟩
  refine Goes.step rfl (fun w hr => ?_)
  replace hF := (fun h r => Kn.rl (fun _ => hS.own) h r) hF hr
  clear hr
  have hm := bs0
  have hm' := bs0E
  refine goes_oper_k rfl rfl (by k_ne) (fun K hK => ?_)
  go_simp
  refine hK _ _ ⟨?_, ?_⟩
  · rw [listed_nil (by simp [go_sem, *])]
    exact al_hdg hS hF.1.size (by simp)
  clear hK K
  try walk_nrm
  clear hm hm'
  replace hF := hF.alloc (Obj.cells #[] 40 (0, 0))
  generalize w.heap.size = eb at *
  generalize w.alloc (Obj.cells #[] 40 (0, 0)) = w at *
  refine Goes.step rfl (fun w hr => ?_)
  replace hF := (fun h r => Kn.rl (fun _ => hS.own) h r) hF hr
  clear hr
  refine goes_oper_k rfl rfl (by k_ne) (fun K hK => ?_)
  go_simp
  refine hK _ _ ⟨?_, ?_⟩
  · rw [listed_nil (by simp [go_sem, *])]
    exact al_hdg hS hF.1.size (by simp)
  clear hK K
  try walk_nrm
  replace hF := hF.alloc (Obj.cells #[.slice none 0 0] 28 (0, 0))
  generalize w.heap.size = ev at *
  generalize w.alloc (Obj.cells #[.slice none 0 0] 28 (0, 0)) = w at *
  refine Goes.step rfl (fun w hr => ?_)
  replace hF := (fun h r => Kn.rl (fun _ => hS.own) h r) hF hr
  clear hr
  have hb := (hF.2 (ev, Obj.cells #[.slice none 0 0] 28 (0, 0)) (by simp))
  have hc : w.cell? ⟨ev, 0, none⟩ = some (.slice none 0 0) := by simp [World.cell?, hb.2]
  have hz : w.frozen? ⟨ev, 0, none⟩ = false := by simp [World.frozen?, hb.2]
  refine goes_oper_k rfl rfl (by k_ne) (fun K hK => ?_)
  go_simp
  try (unfold stored; go_simp)
  refine hK _ _ ⟨?_, ?_⟩
  · refine wr_owng hS hb.1 (block_of_cell hc) (fun cs ty h h' => by simp only [hb.2] at h; cases h; rcases h' with ⟨_, _, e | ⟨e, _⟩⟩ | e <;> cases e) (fun e he => ?_)
    have hm := mem_listed he
    simp [go_sem, storedEv, *] at hm
    exact hm
  clear hK K hc hz
  try walk_nrm
  replace hF := hF.set (v' := .slice (some ⟨eb, 0, none⟩) 0 0) (fun x hx e => by have h1 := (hF.2 _ (List.mem_cons_of_mem _ hx)).2; rw [e, hb.2] at h1; simp only [List.mem_cons, List.not_mem_nil, or_false] at hx; rcases hx with rfl | rfl <;> simp at h1)
  clear hb
  generalize w.setCell ⟨ev, 0, none⟩ (.slice (some ⟨eb, 0, none⟩) 0 0) = w at *
  refine Goes.step rfl (fun w hr => ?_)
  replace hF := (fun h r => Kn.rl (fun _ => hS.own) h r) hF hr
  clear hr
  rw [stepG_region_end]
  simp only [goes_go]
  refine ⟨hdq_idle _ _, ?_⟩
  refine Goes.step rfl (fun w hr => ?_)
  replace hF := (fun h r => Kn.rl (fun _ => hS.own) h r) hF hr
  clear hr
  rw [stepG_seq]
  simp only [goes_go]
  refine ⟨hdq_idle _ _, ?_⟩
  refine Goes.step rfl (fun w hr => ?_)
  replace hF := (fun h r => Kn.rl (fun _ => hS.own) h r) hF hr
  clear hr
  rw [stepG_region]
  simp only [goes_go, List.size_toArray, List.length_cons, List.length_nil, Nat.reduceAdd, Nat.zero_add, List.range, List.range.loop]
  refine ⟨hdq_idle _ _, ?_⟩
  refine Goes.step rfl (fun w hr => ?_)
  replace hF := (fun h r => Kn.rl (fun _ => hS.own) h r) hF hr
  clear hr
  have hbx := hF.2 (tb, Obj.cells #[.slice al n tcap] 32 (0, 0)) (by simp)
  have hc : w.cell? ⟨tb, 0, none⟩ = some (.slice al n tcap) := by simp [World.cell?, hbx.2]
  refine goes_oper_k rfl rfl (by k_ne) (fun K hK => ?_)
  go_simp
  refine hK _ _ ⟨?_, ?_⟩
  · refine rd_owng hS hbx.1 (block_of_cell hc) (fun e he => ?_)
    have hm := mem_listed he
    simp [go_sem, *] at hm
    exact hm
  clear hK K hc hbx
  try walk_nrm
  refine Goes.step rfl (fun w hr => ?_)
  replace hF := (fun h r => Kn.rl (fun _ => hS.own) h r) hF hr
  clear hr
  refine goes_oper_k rfl rfl (by k_ne) (fun K hK => ?_)
  go_simp
  refine hK _ _ ⟨?_, ?_⟩
  · rw [listed_nil (by simp [go_sem])]; exact hdq_idle _ _
  clear hK K
  try walk_nrm
  refine Goes.step rfl (fun w hr => ?_)
  replace hF := (fun h r => Kn.rl (fun _ => hS.own) h r) hF hr
  clear hr
  have hm := fun w => (mks n hn w #[]).1
  have hm' := fun w es => (mks n hn w es).2
  refine goes_oper_k rfl rfl (by k_ne) (fun K hK => ?_)
  go_simp
  refine hK _ _ ⟨?_, ?_⟩
  · rw [listed_nil (by simp [go_sem, *])]
    exact al_hdg hS hF.1.size (by simp)
  clear hK K
  try walk_nrm
  clear hm hm'
  replace hF := hF.alloc (mkW n)
  generalize w.heap.size = wb at *
  generalize w.alloc (mkW n) = w at *
  refine Goes.step rfl (fun w hr => ?_)
  replace hF := (fun h r => Kn.rl (fun _ => hS.own) h r) hF hr
  clear hr
  refine goes_oper_k rfl rfl (by k_ne) (fun K hK => ?_)
  go_simp
  refine hK _ _ ⟨?_, ?_⟩
  · rw [listed_nil (by simp [go_sem])]; exact hdq_idle _ _
  clear hK K
  try walk_nrm
  refine Goes.step rfl (fun w hr => ?_)
  replace hF := (fun h r => Kn.rl (fun _ => hS.own) h r) hF hr
  clear hr
  rw [stepG_region_end]
  simp only [goes_go]
  refine ⟨hdq_idle _ _, ?_⟩
  refine Goes.step rfl (fun w hr => ?_)
  replace hF := (fun h r => Kn.rl (fun _ => hS.own) h r) hF hr
  clear hr
  rw [stepG_seq]
  simp only [goes_go]
  refine ⟨hdq_idle _ _, ?_⟩
  refine Goes.step rfl (fun w hr => ?_)
  replace hF := (fun h r => Kn.rl (fun _ => hS.own) h r) hF hr
  clear hr
  rw [stepG_region]
  simp only [goes_go, List.size_toArray, List.length_cons, List.length_nil, Nat.reduceAdd, Nat.zero_add, List.range, List.range.loop]
  refine ⟨hdq_idle _ _, ?_⟩
  refine Goes.stop (fun w hr => ⟨eb, ev, wb, _, ⟨?_, ?_, ?_, ?_, ?_⟩, rfl, hF.rl (fun _ => hS.own) hr⟩) <;> rfl
end
end Go.Proofs.Ytggfcdhkgldbfaa
