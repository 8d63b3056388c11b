/-
  PARTS of a claim, merged by segs.py: NwRef3.
-/
import Derived.Test.YtggfcdhkgldbfaaN38
namespace Go.Proofs.Ytggfcdhkgldbfaa
set_option linter.unusedSimpArgs false
set_option linter.unusedVariables false

/-! ### NwRef3 -/
section
set_option linter.unusedSimpArgs false
open Go Go.Conc Go.RowKit Go.ConcR.Gen Cw

theorem mkI (n : Nat) (hn : n ≤ 64) (w : World) (es : Array Event) : (Instr.makeSlice 24 (.int .i64 n) (.int .i64 n)).run Try.prog w = .ok (.slice (some ⟨w.heap.size, 0, none⟩) n n) (w.alloc (.cells (ints (List.replicate n 0)).toArray 3 (0, 0))) ∧ (Instr.makeSlice 24 (.int .i64 n) (.int .i64 n)).events Try.prog w es = es := by
  obtain ⟨i, hi, h0, h1, h2⟩ := intInfo
  refine ⟨?_, events_make w _ _ i _ Try.underlying24 hi h0 .i64 .i64 n n (by omega) (by omega) (by rw [h2]; omega) (by omega) (by rw [h2]; simp; omega) es⟩
  have := run_make (P := Try.prog) w 24 3 i _ Try.underlying24 hi h0 .i64 .i64 n n (by omega) (by omega) (by rw [h2]; omega) (by omega)
  rw [h1] at this
  have e : (Value.int .i64 0).cells = #[.int .i64 0] := rfl
  rw [e] at this
  have e2 : madeCells #[.int .i64 0] n = (ints (List.replicate n 0)).toArray := by
    apply Array.ext
    · simp [madeCells, ints]
    · intro k h1 h2
      simp [madeCells, ints, Nat.mod_one]
  rw [← e2]
  simpa using this
/- EMPTY -/
set_option maxRecDepth 100000 in
set_option maxHeartbeats 4000000 in
theorem c_l13a0 {Sh : Loc → Prop} {W : World} {main : Bool} {np n lcap pcap : Nat} {al ap : Option Addr} (hnp : np ≤ 0) :
    ∃ k, ∀ (ab : Nat) (Qx : Exit → Act → World → Prop) (T : Array Value) (w : World) (A : List Nat), T.size = 92 → T[0]? = some (.slice ap np pcap) → T[1]? = some (.slice al n lcap) → T[5]? = some (.slice (some ⟨ab, 0, none⟩) n n) → T[6]? = some (.slice none 0 0) → RF W ab A (.slice none 0 0) [] w →
      l13a.wpC Try.prog main (Ext Vn) (HDq (Cx0 Sh)) 13 k (Exit.then (fun a' w' => ∃ T, a' = ⟨T, []⟩ ∧ T.size = 92 ∧ T[1]? = some (.slice al n lcap) ∧ T[5]? = some (.slice (some ⟨ab, 0, none⟩) n n) ∧ T[6]? = some (.slice none 0 0) ∧ RF W ab A (.slice none 0 0) [] w') Qx) ⟨T, []⟩ w := by
  co_apply Exists.intro
  intro ab Qx T w A hT h0 h1 h5 h6 hF
  obtain ⟨v0, v1, v2, v3, v4, v5, v6, v7, v8, v9, v10, v11, v12, v13, v14, v15, v16, v17, v18, v19, v20, v21, v22, v23, v24, v25, v26, v27, v28, v29, v30, v31, v32, v33, v34, v35, v36, v37, v38, v39, v40, v41, v42, v43, v44, v45, v46, v47, v48, v49, v50, v51, v52, v53, v54, v55, v56, v57, v58, v59, v60, v61, v62, v63, v64, v65, v66, v67, v68, v69, v70, v71, v72, v73, v74, v75, v76, v77, v78, v79, v80, v81, v82, v83, v84, v85, v86, v87, v88, v89, v90, v91, rfl⟩ := arr92 T hT
  simp only [List.getElem?_toArray, List.getElem?_cons_zero, List.getElem?_cons_succ, Option.some.injEq] at h0 h1 h5 h6
  subst h0
  subst h1
  subst h5
  subst h6
  simp only [l13a, code13, rt, lf, Try.f13, Option.getD_some]
  co_apply wpC_seq (TT Sh)
  co_reg (TT Sh)
  co_op RF.rl hF (co_quiet (TT Sh))
  co_apply opsC_nil (TT Sh)
  co_then
  co_apply wpC_block (TT Sh)
  co_apply wpC_loop (TT Sh) (fun a' w' => ∃ (T : Array Value) (i : Nat), a' = ⟨T, []⟩ ∧ T.size = 92 ∧ T[0]? = some (.slice ap np pcap) ∧ T[1]? = some (.slice al n lcap) ∧ T[5]? = some (.slice (some ⟨ab, 0, none⟩) n n) ∧ T[6]? = some (.slice none 0 0) ∧ T[7]? = some (.int .i64 i) ∧ RF W ab A (.slice none 0 0) [] w') (fun a' _ => 0) _ (0)
  · exact ⟨_, 0, rfl, rfl, rfl, rfl, rfl, rfl, rfl, hF⟩
  · simp
  clear hF w
  rintro a' w ⟨T, i, rfl, hT, h0, h1, h5, h6, h7, hF⟩
  obtain ⟨v0, v1, v2, v3, v4, v5, v6, v7, v8, v9, v10, v11, v12, v13, v14, v15, v16, v17, v18, v19, v20, v21, v22, v23, v24, v25, v26, v27, v28, v29, v30, v31, v32, v33, v34, v35, v36, v37, v38, v39, v40, v41, v42, v43, v44, v45, v46, v47, v48, v49, v50, v51, v52, v53, v54, v55, v56, v57, v58, v59, v60, v61, v62, v63, v64, v65, v66, v67, v68, v69, v70, v71, v72, v73, v74, v75, v76, v77, v78, v79, v80, v81, v82, v83, v84, v85, v86, v87, v88, v89, v90, v91, rfl⟩ := arr92 T hT
  simp only [List.getElem?_toArray, List.getElem?_cons_zero, List.getElem?_cons_succ, Option.some.injEq] at h0 h1 h5 h6 h7
  subst h0
  subst h1
  subst h5
  subst h6
  subst h7
  co_apply wpC_seq (TT Sh) (n₂ := 0)
  co_apply wpC_seq (TT Sh)
  co_reg (TT Sh)
  co_op RF.rl hF (co_quiet (TT Sh))
  co_op RF.rl hF (co_quiet (TT Sh))
  co_op RF.rl hF (co_quiet (TT Sh))
  co_op RF.rl hF (co_quiet (TT Sh))
  co_apply opsC_nil (TT Sh)
  co_then
  co_split (TT Sh) (decide ((i : Int) < (np : Int)))
  · intro ht
    exact wpC_absurd (by have := of_decide_eq_true ht; omega)
  · intro ht
    co_apply wpC_exit (TT Sh)
    co_then
    exact ⟨_, rfl, rfl, rfl, rfl, rfl, hF⟩
set_option maxRecDepth 100000 in
set_option maxHeartbeats 4000000 in
theorem c_l13b0 {Sh : Loc → Prop} {W : World} {main : Bool} {n lcap : Nat} {al : Option Addr} (hn : n ≤ 0) :
    ∃ k, ∀ (ab : Nat) (Qx : Exit → Act → World → Prop) (T : Array Value) (w : World) (A : List Nat), T.size = 92 → T[1]? = some (.slice al n lcap) → T[5]? = some (.slice (some ⟨ab, 0, none⟩) n n) → T[6]? = some (.slice none 0 0) → RF W ab A (.slice none 0 0) [] w →
      l13b.wpC Try.prog main (Ext Vn) (HDq (Cx0 Sh)) 13 k (Exit.then (fun a' w' => ∃ T, a' = ⟨T, []⟩ ∧ T.size = 92 ∧ T[6]? = some (.slice none 0 0) ∧ RF W ab A (.slice none 0 0) [] w') Qx) ⟨T, []⟩ w := by
  co_apply Exists.intro
  intro ab Qx T w A hT h1 h5 h6 hF
  obtain ⟨v0, v1, v2, v3, v4, v5, v6, v7, v8, v9, v10, v11, v12, v13, v14, v15, v16, v17, v18, v19, v20, v21, v22, v23, v24, v25, v26, v27, v28, v29, v30, v31, v32, v33, v34, v35, v36, v37, v38, v39, v40, v41, v42, v43, v44, v45, v46, v47, v48, v49, v50, v51, v52, v53, v54, v55, v56, v57, v58, v59, v60, v61, v62, v63, v64, v65, v66, v67, v68, v69, v70, v71, v72, v73, v74, v75, v76, v77, v78, v79, v80, v81, v82, v83, v84, v85, v86, v87, v88, v89, v90, v91, rfl⟩ := arr92 T hT
  simp only [List.getElem?_toArray, List.getElem?_cons_zero, List.getElem?_cons_succ, Option.some.injEq] at h1 h5 h6
  subst h1
  subst h5
  subst h6
  simp only [l13b, code13, rt, lf, Try.f13, Option.getD_some]
  co_apply wpC_seq (TT Sh)
  co_reg (TT Sh)
  co_op RF.rl hF (co_quiet (TT Sh))
  co_apply opsC_nil (TT Sh)
  co_then
  co_apply wpC_block (TT Sh)
  co_apply wpC_loop (TT Sh) (fun a' w' => ∃ (T : Array Value) (i : Nat), a' = ⟨T, []⟩ ∧ T.size = 92 ∧ T[1]? = some (.slice al n lcap) ∧ T[5]? = some (.slice (some ⟨ab, 0, none⟩) n n) ∧ T[6]? = some (.slice none 0 0) ∧ T[9]? = some (.int .i64 i) ∧ RF W ab A (.slice none 0 0) [] w') (fun a' _ => 0) _ (0)
  · exact ⟨_, 0, rfl, rfl, rfl, rfl, rfl, rfl, hF⟩
  · simp
  clear hF w
  rintro a' w ⟨T, i, rfl, hT, h1, h5, h6, h9, hF⟩
  obtain ⟨v0, v1, v2, v3, v4, v5, v6, v7, v8, v9, v10, v11, v12, v13, v14, v15, v16, v17, v18, v19, v20, v21, v22, v23, v24, v25, v26, v27, v28, v29, v30, v31, v32, v33, v34, v35, v36, v37, v38, v39, v40, v41, v42, v43, v44, v45, v46, v47, v48, v49, v50, v51, v52, v53, v54, v55, v56, v57, v58, v59, v60, v61, v62, v63, v64, v65, v66, v67, v68, v69, v70, v71, v72, v73, v74, v75, v76, v77, v78, v79, v80, v81, v82, v83, v84, v85, v86, v87, v88, v89, v90, v91, rfl⟩ := arr92 T hT
  simp only [List.getElem?_toArray, List.getElem?_cons_zero, List.getElem?_cons_succ, Option.some.injEq] at h1 h5 h6 h9
  subst h1
  subst h5
  subst h6
  subst h9
  co_apply wpC_seq (TT Sh) (n₂ := 0)
  co_apply wpC_seq (TT Sh)
  co_reg (TT Sh)
  co_op RF.rl hF (co_quiet (TT Sh))
  co_op RF.rl hF (co_quiet (TT Sh))
  co_op RF.rl hF (co_quiet (TT Sh))
  co_op RF.rl hF (co_quiet (TT Sh))
  co_apply opsC_nil (TT Sh)
  co_then
  co_split (TT Sh) (decide ((i : Int) < (n : Int)))
  · intro ht
    exact wpC_absurd (by have := of_decide_eq_true ht; omega)
  · intro ht
    co_apply wpC_exit (TT Sh)
    co_then
    exact ⟨_, rfl, rfl, rfl, hF⟩
set_option maxRecDepth 100000 in
set_option maxHeartbeats 4000000 in
theorem c_ref0 {Sh : Loc → Prop} {W : World} {main : Bool} (hS : ShOk Sh W) {al ap : Option Addr} {us : List Value} {L : List (List ByteArray)} {ps : List Nat} {n np : Nat} (lcap pcap : Nat) (hn64 : n ≤ 64) (hn0 : n ≤ 0) (hnp0 : np ≤ 0) (hR : refRun L ps = []) :
    ∃ k, ∀ w, Ext Vn W w → CallsC Try.prog main (Ext Vn) (HDq (Cx0 Sh)) 13 #[.slice ap np pcap, .slice al n lcap] k w (fun r w' => Ext Vn W w' ∧ w'.ownsRow W.heap.size 41 2 r (refRun L ps).length (evCells (refRun L ps))) := by
  have rl0 : ∀ {w w' : World}, Ext Vn W w → Ext Vn w w' → Ext Vn W w' := fun h r => h.trans r
  obtain ⟨k1, hk1⟩ := c_l13a0 (Sh := Sh) (W := W) (main := main) (n := n) (lcap := lcap) (pcap := pcap) (al := al) (ap := ap) hnp0
  obtain ⟨k2, hk2⟩ := c_l13b0 (Sh := Sh) (W := W) (main := main) (lcap := lcap) (al := al) hn0
  simp only [l13a, l13b, code13, rt, lf, Try.f13, Option.getD_some] at hk1 hk2
  co_apply Exists.intro
  intro w hF
  co_apply callsC_of_wpC Try.func13 (by rfl) rfl
  simp only [Try.ntmps13, List.size_toArray, List.length_cons, List.length_nil, Nat.reduceAdd, Nat.reduceSub, Array.replicate_succ, Array.replicate_zero, List.push_toArray, List.append_toArray, List.nil_append, List.cons_append]
  co_apply wpC_seq (TT Sh)
  co_reg (TT Sh)
  co_op rl0 hF (co_quiet (TT Sh))
  co_apply opsC_nil (TT Sh)
  co_then
  co_apply wpC_seq (TT Sh)
  co_reg (TT Sh)
  co_op rl0 hF (co_quiet (TT Sh))
  co_op rl0 hF (co_quiet (TT Sh))
  co_opw rl0 hF (have hm := fun w => (mkI n hn64 w #[]).1; have hm' := fun w es => (mkI n hn64 w es).2) (rw [listed_nil (by simp [go_sem, *])]; exact al_hd (by simp))
  have hF2 : RF W _ (List.replicate n 0) (.slice none 0 0) [] _ := ⟨ext_alloc hF (.cells (ints (List.replicate n 0)).toArray 3 (0, 0)), hF.size, heap_alloc_new _ _, World.ownsRow_nil _ _ _ _⟩
  clear hF hm hm'
  have hF := hF2
  clear hF2
  co_op RF.rl hF (co_quiet (TT Sh))
  co_apply opsC_nil (TT Sh)
  co_then
  co_apply wpC_seq (TT Sh)
  co_reg (TT Sh)
  co_op RF.rl hF (co_quiet (TT Sh))
  co_apply opsC_nil (TT Sh)
  co_then
  co_apply wpC_seq_mid (TT Sh) _ (hk1 _ _ _ _ _ rfl rfl rfl rfl rfl hF)
  rintro a' w' ⟨T, rfl, hT, h1, h5, h6, hF⟩
  co_apply wpC_seq_mid (TT Sh) _ (hk2 _ _ _ _ _ hT h1 h5 h6 hF)
  rintro a' w' ⟨T, rfl, hT, h6, hF⟩
  obtain ⟨v0, v1, v2, v3, v4, v5, v6, v7, v8, v9, v10, v11, v12, v13, v14, v15, v16, v17, v18, v19, v20, v21, v22, v23, v24, v25, v26, v27, v28, v29, v30, v31, v32, v33, v34, v35, v36, v37, v38, v39, v40, v41, v42, v43, v44, v45, v46, v47, v48, v49, v50, v51, v52, v53, v54, v55, v56, v57, v58, v59, v60, v61, v62, v63, v64, v65, v66, v67, v68, v69, v70, v71, v72, v73, v74, v75, v76, v77, v78, v79, v80, v81, v82, v83, v84, v85, v86, v87, v88, v89, v90, v91, rfl⟩ := arr92 T hT
  simp only [List.getElem?_toArray, List.getElem?_cons_zero, List.getElem?_cons_succ, Option.some.injEq] at h6
  subst h6
  co_apply wpC_seq (TT Sh)
  co_reg (TT Sh)
  co_op RF.rl hF (co_quiet (TT Sh))
  co_op RF.rl hF (co_quiet (TT Sh))
  co_apply opsC_nil (TT Sh)
  co_then
  co_apply wpC_ret (TT Sh)
  try co_then
  refine ⟨rfl, _, resultsC_tmp (by rfl) _, hF.ext, ?_⟩
  rw [hR]
  exact hF.row
set_option maxRecDepth 100000 in
set_option maxHeartbeats 4000000 in
theorem c_ref1 {Sh : Loc → Prop} {W : World} {main : Bool} (hS : ShOk Sh W) {al ap : Option Addr} {us : List Value} {L : List (List ByteArray)} {ps : List Nat} {n np : Nat} (lcap pcap : Nat) {lp lo : Nat} (hI : Rin W lp lo us L) (hn : us.length ≤ n ∧ n ≤ us.length) (hL : L.length = n) (hn64 : n ≤ 64) (hnp0 : np ≤ 0) (hps : ps = []) :
    ∃ k, ∀ w, Ext Vn W w → CallsC Try.prog main (Ext Vn) (HDq (Cx0 Sh)) 13 #[.slice ap np pcap, .slice (some ⟨lp, lo, none⟩) n lcap] k w (fun r w' => Ext Vn W w' ∧ w'.ownsRow W.heap.size 41 2 r (refRun L ps).length (evCells (refRun L ps))) := by
  have rl0 : ∀ {w w' : World}, Ext Vn W w → Ext Vn w w' → Ext Vn W w' := fun h r => h.trans r
  obtain ⟨k1, hk1⟩ := c_l13a0 (Sh := Sh) (W := W) (main := main) (n := n) (lcap := lcap) (pcap := pcap) (al := some ⟨lp, lo, none⟩) (ap := ap) hnp0
  obtain ⟨k2, hk2⟩ := c_l13b (main := main) hS (lcap := lcap) hI hn hn64
  have hRR : ∀ A' E', IsDr L (List.replicate n 0, []) n A' E' → refRun L ps = E' := fun A' E' h => by
    unfold refRun
    rw [hL, hps, List.foldl_nil]
    unfold IsDr at h
    rw [h]
  clear hps
  simp only [l13a, l13b, code13, rt, lf, Try.f13, Option.getD_some] at hk1 hk2
  co_apply Exists.intro
  intro w hF
  co_apply callsC_of_wpC Try.func13 (by rfl) rfl
  simp only [Try.ntmps13, List.size_toArray, List.length_cons, List.length_nil, Nat.reduceAdd, Nat.reduceSub, Array.replicate_succ, Array.replicate_zero, List.push_toArray, List.append_toArray, List.nil_append, List.cons_append]
  co_apply wpC_seq (TT Sh)
  co_reg (TT Sh)
  co_op rl0 hF (co_quiet (TT Sh))
  co_apply opsC_nil (TT Sh)
  co_then
  co_apply wpC_seq (TT Sh)
  co_reg (TT Sh)
  co_op rl0 hF (co_quiet (TT Sh))
  co_op rl0 hF (co_quiet (TT Sh))
  co_opw rl0 hF (have hm := fun w => (mkI n hn64 w #[]).1; have hm' := fun w es => (mkI n hn64 w es).2) (rw [listed_nil (by simp [go_sem, *])]; exact al_hd (by simp))
  have hF2 : RF W _ (List.replicate n 0) (.slice none 0 0) [] _ := ⟨ext_alloc hF (.cells (ints (List.replicate n 0)).toArray 3 (0, 0)), hF.size, heap_alloc_new _ _, World.ownsRow_nil _ _ _ _⟩
  clear hF hm hm'
  have hF := hF2
  clear hF2
  co_op RF.rl hF (co_quiet (TT Sh))
  co_apply opsC_nil (TT Sh)
  co_then
  co_apply wpC_seq (TT Sh)
  co_reg (TT Sh)
  co_op RF.rl hF (co_quiet (TT Sh))
  co_apply opsC_nil (TT Sh)
  co_then
  co_apply wpC_seq_mid (TT Sh) _ (hk1 _ _ _ _ _ rfl rfl rfl rfl rfl hF)
  clear hF
  rintro a' w' ⟨T, rfl, hT, h1, h5, h6, hF⟩
  co_apply wpC_seq_mid (TT Sh) _ (hk2 _ _ (List.replicate n 0, []) _ _ _ _ _ hT h1 h5 h6 rfl ⟨by simp, by simp⟩ (fun x hx => by simp at hx; omega) (by simp) hF)
  clear hF h1 h5 h6 hT
  rintro a' w' ⟨T, u, A', E', rfl, hT, h6, hdr, _, hF⟩
  obtain ⟨v0, v1, v2, v3, v4, v5, v6, v7, v8, v9, v10, v11, v12, v13, v14, v15, v16, v17, v18, v19, v20, v21, v22, v23, v24, v25, v26, v27, v28, v29, v30, v31, v32, v33, v34, v35, v36, v37, v38, v39, v40, v41, v42, v43, v44, v45, v46, v47, v48, v49, v50, v51, v52, v53, v54, v55, v56, v57, v58, v59, v60, v61, v62, v63, v64, v65, v66, v67, v68, v69, v70, v71, v72, v73, v74, v75, v76, v77, v78, v79, v80, v81, v82, v83, v84, v85, v86, v87, v88, v89, v90, v91, rfl⟩ := arr92 T hT
  simp only [List.getElem?_toArray, List.getElem?_cons_zero, List.getElem?_cons_succ, Option.some.injEq] at h6
  subst h6
  co_apply wpC_seq (TT Sh)
  co_reg (TT Sh)
  co_op RF.rl hF (co_quiet (TT Sh))
  co_op RF.rl hF (co_quiet (TT Sh))
  co_apply opsC_nil (TT Sh)
  co_then
  co_apply wpC_ret (TT Sh)
  try co_then
  refine ⟨rfl, _, resultsC_tmp (by rfl) _, hF.ext, ?_⟩
  rw [hRR A' E' hdr]
  exact hF.row
set_option maxRecDepth 100000 in
set_option maxHeartbeats 4000000 in
theorem c_ref2 {Sh : Loc → Prop} {W : World} {main : Bool} (hS : ShOk Sh W) {us : List Value} {L : List (List ByteArray)} {ps : List Nat} {n : Nat} (lcap pcap : Nat) {pp po : Nat} {lp lo : Nat} (hI : Rin W lp lo us L) (hn : us.length ≤ n ∧ n ≤ us.length) (hL : L.length = n) (hn64 : n ≤ 64) (hps : ∀ (k x : Nat), ps[k]? = some x → W.cell? ⟨pp, po + k, none⟩ = some (.int .i64 x)) (hpn : ∀ x ∈ ps, x < n) (hnp : ps.length ≤ 4096) :
    ∃ k, ∀ w, Ext Vn W w → CallsC Try.prog main (Ext Vn) (HDq (Cx0 Sh)) 13 #[.slice (some ⟨pp, po, none⟩) ps.length pcap, .slice (some ⟨lp, lo, none⟩) n lcap] k w (fun r w' => Ext Vn W w' ∧ w'.ownsRow W.heap.size 41 2 r (refRun L ps).length (evCells (refRun L ps))) := by
  have rl0 : ∀ {w w' : World}, Ext Vn W w → Ext Vn w w' → Ext Vn W w' := fun h r => h.trans r
  obtain ⟨k1, hk1⟩ := c_l13a (main := main) hS (lcap := lcap) (pcap := pcap) hI hps hn hpn hnp
  obtain ⟨k2, hk2⟩ := c_l13b (main := main) hS (lcap := lcap) hI hn hn64
  have hRR : ∀ A E A' E', IsSt L (List.replicate n 0, []) ps A E → IsDr L (A, E) n A' E' → refRun L ps = E' := fun A E A' E' h h' => by
    unfold refRun
    unfold IsSt at h
    unfold IsDr at h'
    rw [hL, h, h']
  simp only [l13a, l13b, code13, rt, lf, Try.f13, Option.getD_some] at hk1 hk2
  co_apply Exists.intro
  intro w hF
  co_apply callsC_of_wpC Try.func13 (by rfl) rfl
  simp only [Try.ntmps13, List.size_toArray, List.length_cons, List.length_nil, Nat.reduceAdd, Nat.reduceSub, Array.replicate_succ, Array.replicate_zero, List.push_toArray, List.append_toArray, List.nil_append, List.cons_append]
  co_apply wpC_seq (TT Sh)
  co_reg (TT Sh)
  co_op rl0 hF (co_quiet (TT Sh))
  co_apply opsC_nil (TT Sh)
  co_then
  co_apply wpC_seq (TT Sh)
  co_reg (TT Sh)
  co_op rl0 hF (co_quiet (TT Sh))
  co_op rl0 hF (co_quiet (TT Sh))
  co_opw rl0 hF (have hm := fun w => (mkI n hn64 w #[]).1; have hm' := fun w es => (mkI n hn64 w es).2) (rw [listed_nil (by simp [go_sem, *])]; exact al_hd (by simp))
  have hF2 : RF W _ (List.replicate n 0) (.slice none 0 0) [] _ := ⟨ext_alloc hF (.cells (ints (List.replicate n 0)).toArray 3 (0, 0)), hF.size, heap_alloc_new _ _, World.ownsRow_nil _ _ _ _⟩
  clear hF hm hm'
  have hF := hF2
  clear hF2
  co_op RF.rl hF (co_quiet (TT Sh))
  co_apply opsC_nil (TT Sh)
  co_then
  co_apply wpC_seq (TT Sh)
  co_reg (TT Sh)
  co_op RF.rl hF (co_quiet (TT Sh))
  co_apply opsC_nil (TT Sh)
  co_then
  co_apply wpC_seq_mid (TT Sh) _ (hk1 _ _ _ _ rfl rfl rfl rfl rfl hF)
  clear hF
  rintro a' w' ⟨T, u, A, E, rfl, hT, h1, h5, h6, hst, hA1, hA2, hbd, hEl, hF⟩
  co_apply wpC_seq_mid (TT Sh) _ (hk2 _ _ (A, E) _ _ _ _ _ hT h1 h5 h6 rfl ⟨hA1, hA2⟩ (fun x hx => by have := hbd x hx; omega) hEl hF)
  clear hF h1 h5 h6 hT
  rintro a' w' ⟨T, u, A', E', rfl, hT, h6, hdr, _, hF⟩
  obtain ⟨v0, v1, v2, v3, v4, v5, v6, v7, v8, v9, v10, v11, v12, v13, v14, v15, v16, v17, v18, v19, v20, v21, v22, v23, v24, v25, v26, v27, v28, v29, v30, v31, v32, v33, v34, v35, v36, v37, v38, v39, v40, v41, v42, v43, v44, v45, v46, v47, v48, v49, v50, v51, v52, v53, v54, v55, v56, v57, v58, v59, v60, v61, v62, v63, v64, v65, v66, v67, v68, v69, v70, v71, v72, v73, v74, v75, v76, v77, v78, v79, v80, v81, v82, v83, v84, v85, v86, v87, v88, v89, v90, v91, rfl⟩ := arr92 T hT
  simp only [List.getElem?_toArray, List.getElem?_cons_zero, List.getElem?_cons_succ, Option.some.injEq] at h6
  subst h6
  co_apply wpC_seq (TT Sh)
  co_reg (TT Sh)
  co_op RF.rl hF (co_quiet (TT Sh))
  co_op RF.rl hF (co_quiet (TT Sh))
  co_apply opsC_nil (TT Sh)
  co_then
  co_apply wpC_ret (TT Sh)
  try co_then
  refine ⟨rfl, _, resultsC_tmp (by rfl) _, hF.ext, ?_⟩
  rw [hRR A E A' E' hst hdr]
  exact hF.row
end
end Go.Proofs.Ytggfcdhkgldbfaa
