/-
  PARTS of a claim, merged by segs.py: NwRef.
-/
import Derived.Test.YtggfcdhkgldbfaaN32
namespace Go.Proofs.Ytggfcdhkgldbfaa
set_option linter.unusedSimpArgs false
set_option linter.unusedVariables false

/-! ### NwRef -/
section
set_option linter.unusedSimpArgs false
open Go Go.Conc Go.RowKit Go.ConcR.Gen Cw

/-- .. but for the events. -/
structure RA (W : World) (ab : Nat) (A : List Nat) (w : World) : Prop where
  ext : Ext Vn W w
  lo : W.heap.size ≤ ab
  at_ : w.heap[ab]? = some (.cells (ints A).toArray 3 (0, 0))
theorem RF.ra {W w : World} {ab : Nat} {A : List Nat} {u : Value} {E : List (Int × ByteArray)} (h : RF W ab A u E w) : RA W ab A w := ⟨h.ext, h.lo, h.at_⟩
theorem RA.rl {W w w' : World} {ab : Nat} {A : List Nat} (h : RA W ab A w) (r : Ext Vn w w') : RA W ab A w' :=
  ⟨h.ext.trans r, h.lo, (r.same _ (Array.getElem?_eq_some_iff.1 h.at_).1 id).trans h.at_⟩
theorem RA.cell {W w : World} {ab : Nat} {A : List Nat} (h : RA W ab A w) {k x : Nat} (hk : A[k]? = some x) : w.cell? ⟨ab, k, none⟩ = some (.int .i64 x) := by
  simp [World.cell?, h.at_, ints, hk]
noncomputable def code13 : Code := Try.f13.body.getD .skip
noncomputable def l13a : Code := lf (rt (rt (rt code13)))
noncomputable def l13b : Code := lf (rt (rt (rt (rt code13))))
def IsSt (L : List (List ByteArray)) (s0 : List Nat × List (Int × ByteArray)) (l : List Nat) (A : List Nat) (E : List (Int × ByteArray)) : Prop := l.foldl (refStep L) s0 = (A, E)
/-- What the document's Run is given. -/
structure Rin (W : World) (lp lo : Nat) (us : List Value) (L : List (List ByteArray)) : Prop where
  row : ∀ (k : Nat) (u : Value), us[k]? = some u → W.cell? ⟨lp, lo + k, none⟩ = some u
  sl : ∀ k, k < us.length → ∃ a c, us[k]? = some (.slice a (Sk L k).length c) ∧ Nts a (Sk L k) W
  bd : ∀ k, (Sk L k).length ≤ 1000000
theorem refStep_some {L : List (List ByteArray)} {A : List Nat} {E : List (Int × ByteArray)} {tt x : Nat} {sx : ByteArray} (hA : A[tt]? = some x) (hs : (Sk L tt)[x]? = some sx) : refStep L (A, E) tt = (A.set tt (x + 1), E ++ [((tt : Int), sx)]) := by
  simp [refStep, List.getD_eq_getElem?_getD, hA, hs]
theorem refStep_none {L : List (List ByteArray)} {A : List Nat} {E : List (Int × ByteArray)} {tt x : Nat} (hA : A[tt]? = some x) (hs : (Sk L tt).length ≤ x) : refStep L (A, E) tt = (A.set tt (x + 1), E) := by
  simp [refStep, List.getD_eq_getElem?_getD, hA, List.getElem?_eq_none hs]
theorem isSt_snoc {L : List (List ByteArray)} {s0 : List Nat × List (Int × ByteArray)} {l : List Nat} {A A' : List Nat} {E E' : List (Int × ByteArray)} {tt : Nat} (h : IsSt L s0 l A E) (hs : refStep L (A, E) tt = (A', E')) : IsSt L s0 (l ++ [tt]) A' E' := by
  unfold IsSt at h ⊢
  rw [List.foldl_append, h]
  exact hs
theorem take_snoc {α : Type _} {l : List α} {i : Nat} {x : α} (h : l[i]? = some x) : l.take (i + 1) = l.take i ++ [x] := by
  rw [List.take_add_one, h]; rfl
theorem set_bd {A : List Nat} {k y b : Nat} (h : ∀ x ∈ A, x ≤ b) (hy : y ≤ b + 1) : ∀ x ∈ A.set k y, x ≤ b + 1 := by
  intro x hx
  rcases List.mem_or_eq_of_mem_set hx with h1 | h1
  · have := h x h1; omega
  · omega
theorem refStep_len (L : List (List ByteArray)) (s : List Nat × List (Int × ByteArray)) (t : Nat) : (refStep L s t).1.length = s.1.length := by simp [refStep]
set_option maxRecDepth 100000 in
set_option maxHeartbeats 4000000 in
theorem c_l13a {Sh : Loc → Prop} {W : World} {main : Bool} (hS : ShOk Sh W) {lp lo pp po n lcap pcap : Nat} {us : List Value} {L : List (List ByteArray)} {ps : List Nat} (hI : Rin W lp lo us L) (hps : ∀ (k x : Nat), ps[k]? = some x → W.cell? ⟨pp, po + k, none⟩ = some (.int .i64 x)) (hn : us.length ≤ n ∧ n ≤ us.length) (hpn : ∀ x ∈ ps, x < n) (hnp : ps.length ≤ 4096) :
    ∃ k, ∀ (ab : Nat) (Qx : Exit → Act → World → Prop) (T : Array Value) (w : World), T.size = 92 → T[0]? = some (.slice (some ⟨pp, po, none⟩) ps.length pcap) → T[1]? = some (.slice (some ⟨lp, lo, none⟩) n lcap) → T[5]? = some (.slice (some ⟨ab, 0, none⟩) n n) → T[6]? = some (.slice none 0 0) → RF W ab (List.replicate n 0) (.slice none 0 0) [] w →
      l13a.wpC Try.prog main (Ext Vn) (HDq (Cx0 Sh)) 13 k (Exit.then (fun a' w' => ∃ T u A E, a' = ⟨T, []⟩ ∧ T.size = 92 ∧ T[1]? = some (.slice (some ⟨lp, lo, none⟩) n lcap) ∧ T[5]? = some (.slice (some ⟨ab, 0, none⟩) n n) ∧ T[6]? = some u ∧ IsSt L (List.replicate n 0, []) ps A E ∧ A.length ≤ n ∧ n ≤ A.length ∧ (∀ x ∈ A, x ≤ 4096) ∧ E.length ≤ 4096 ∧ RF W ab A u E w') Qx) ⟨T, []⟩ w := by
  obtain ⟨it, hit, hz1, hz2, hz3⟩ := reInfo
  co_apply Exists.intro
  intro ab Qx T w hT h0 h1 h5 h6 hF
  obtain ⟨v0, v1, v2, v3, v4, v5, v6, v7, v8, v9, v10, v11, v12, v13, v14, v15, v16, v17, v18, v19, v20, v21, v22, v23, v24, v25, v26, v27, v28, v29, v30, v31, v32, v33, v34, v35, v36, v37, v38, v39, v40, v41, v42, v43, v44, v45, v46, v47, v48, v49, v50, v51, v52, v53, v54, v55, v56, v57, v58, v59, v60, v61, v62, v63, v64, v65, v66, v67, v68, v69, v70, v71, v72, v73, v74, v75, v76, v77, v78, v79, v80, v81, v82, v83, v84, v85, v86, v87, v88, v89, v90, v91, rfl⟩ := arr92 T hT
  simp only [List.getElem?_toArray, List.getElem?_cons_zero, List.getElem?_cons_succ, Option.some.injEq] at h0 h1 h5 h6
  subst h0
  subst h1
  subst h5
  subst h6
  simp only [l13a, code13, rt, lf, Try.f13, Option.getD_some]
  co_apply wpC_seq (TT Sh)
  co_reg (TT Sh)
  co_op RF.rl hF (co_quiet (TT Sh))
  co_apply opsC_nil (TT Sh)
  co_then
  co_apply wpC_block (TT Sh)
  co_apply wpC_loop (TT Sh) (fun a' w' => ∃ (T : Array Value) (i : Nat) (A : List Nat) (E : List (Int × ByteArray)) (u : Value), a' = ⟨T, []⟩ ∧ T.size = 92 ∧ T[0]? = some (.slice (some ⟨pp, po, none⟩) ps.length pcap) ∧ T[1]? = some (.slice (some ⟨lp, lo, none⟩) n lcap) ∧ T[5]? = some (.slice (some ⟨ab, 0, none⟩) n n) ∧ T[6]? = some (u) ∧ T[7]? = some (.int .i64 i) ∧ i ≤ ps.length ∧ IsSt L (List.replicate n 0, []) (ps.take i) A E ∧ A.length ≤ n ∧ n ≤ A.length ∧ (∀ x ∈ A, x ≤ i) ∧ E.length ≤ i ∧ RF W ab A u E w') (fun a' _ => ps.length - slotN a' 7) _ (ps.length)
  · exact ⟨_, 0, List.replicate n 0, [], _, rfl, rfl, rfl, rfl, rfl, rfl, rfl, by omega, rfl, by simp, by simp, fun x hx => by simp at hx; omega, by simp, hF⟩
  · simp [slotN]
  clear hF w
  rintro a' w ⟨T, i, A, E, u, rfl, hT, h0, h1, h5, h6, h7, hi, hst, hA1, hA2, hbd, hEl, hF⟩
  obtain ⟨v0, v1, v2, v3, v4, v5, v6, v7, v8, v9, v10, v11, v12, v13, v14, v15, v16, v17, v18, v19, v20, v21, v22, v23, v24, v25, v26, v27, v28, v29, v30, v31, v32, v33, v34, v35, v36, v37, v38, v39, v40, v41, v42, v43, v44, v45, v46, v47, v48, v49, v50, v51, v52, v53, v54, v55, v56, v57, v58, v59, v60, v61, v62, v63, v64, v65, v66, v67, v68, v69, v70, v71, v72, v73, v74, v75, v76, v77, v78, v79, v80, v81, v82, v83, v84, v85, v86, v87, v88, v89, v90, v91, rfl⟩ := arr92 T hT
  simp only [List.getElem?_toArray, List.getElem?_cons_zero, List.getElem?_cons_succ, Option.some.injEq] at h0 h1 h5 h6 h7
  subst h0
  subst h1
  subst h5
  subst h6
  subst h7
  co_apply wpC_seq (TT Sh)
  co_apply wpC_seq (TT Sh)
  co_reg (TT Sh)
  co_op RF.rl hF (co_quiet (TT Sh))
  co_op RF.rl hF (co_quiet (TT Sh))
  co_op RF.rl hF (co_quiet (TT Sh))
  co_op RF.rl hF (co_quiet (TT Sh))
  co_apply opsC_nil (TT Sh)
  co_then
  co_split (TT Sh) (decide ((i : Int) < (ps.length : Int)))
  · intro ht
    have hil : i < ps.length := by simpa using ht
    obtain ⟨tt, hti⟩ : ∃ tt, ps[i]? = some tt := ⟨_, List.getElem?_eq_getElem hil⟩
    have htn := hpn tt (List.mem_of_getElem? hti)
    obtain ⟨x, hAx⟩ : ∃ x, A[tt]? = some x := ⟨_, List.getElem?_eq_getElem (by omega)⟩
    have hxi := hbd x (List.mem_of_getElem? hAx)
    obtain ⟨sa, sc, hut, hnt⟩ := hI.sl tt (by omega)
    have hbdt := hI.bd tt
    co_apply wpC_skip (TT Sh)
    co_then
    co_apply wpC_seq (TT Sh)
    co_apply wpC_block (TT Sh)
    co_apply wpC_seq (TT Sh)
    co_reg (TT Sh)
    co_op RF.rl hF (co_quiet (TT Sh))
    co_op RF.rl hF (co_quiet (TT Sh))
    co_opw RF.rl hF (skip) (co_still (TT Sh))
    co_opw RF.rl hF (have hc := cell_ext hF.ext (hps i tt hti)) (refine rd_old hS hF.ext (hps i tt hti) (by rfl) (fun e he => ?_); have hm := mem_listed he; simp [go_sem, *] at hm; exact hm)
    clear hc
    co_op RF.rl hF (co_quiet (TT Sh))
    co_apply opsC_nil (TT Sh)
    co_then
    co_apply wpC_seq (TT Sh)
    co_apply wpC_seq (TT Sh)
    co_held (TT Sh) (lets0 Sh) draw_ext (RA W ab A) RF.rl hF
    have hA := hF.ra
    co_take 0 (TT Sh) RA.rl hA hw (skip) (co_quiet (TT Sh))
    co_take 1 (TT Sh) RA.rl hA hw (skip) (co_quiet (TT Sh))
    co_take 2 (TT Sh) RA.rl hA hw (skip) (co_still (TT Sh))
    co_take 3 (TT Sh) RA.rl hA hw (have hc := hw.cell hAx) (refine rd_own hS hw.lo (block_of_cell hc) (fun e he => ?_); have hm := mem_listed he; simp [go_sem, *] at hm; exact hm)
    co_take 4 (TT Sh) RA.rl hA hw (skip) (co_quiet (TT Sh))
    co_take 5 (TT Sh) RA.rl hA hw (skip) (co_quiet (TT Sh))
    co_take 6 (TT Sh) RA.rl hA hw (skip) (co_still (TT Sh))
    co_take 7 (TT Sh) RA.rl hA hw (have hc := cell_ext hw.ext (hI.row _ _ hut)) (refine rd_old hS hw.ext (hI.row _ _ hut) (by rfl) (fun e he => ?_); have hm := mem_listed he; simp [go_sem, *] at hm; exact hm)
    co_take 8 (TT Sh) RA.rl hA hw (skip) (co_quiet (TT Sh))
    co_take 9 (TT Sh) RA.rl hA hw (skip) (co_quiet (TT Sh))
    co_done
    co_split (TT Sh) (decide ((x : Int) < ((Sk L tt).length : Int)))
    · intro ht
      have hxl : x < (Sk L tt).length := by have := of_decide_eq_true ht; omega
      obtain ⟨sx, hsx⟩ : ∃ sx, (Sk L tt)[x]? = some sx := ⟨_, List.getElem?_eq_getElem hxl⟩
      obtain ⟨sp, so, hsa, hsc0⟩ := hnt.resolve_left (fun e => by rw [e] at hxl; simp at hxl)
      rw [hsa] at hut
      have hsc := hsc0 x sx hsx
      clear hsc0 hsa hnt
      co_held (TT Sh) (lets0 Sh) draw_ext (RA W ab A) RF.rl hF
      have hA := hF.ra
      co_take 0 (TT Sh) RA.rl hA hw (skip) (co_quiet (TT Sh))
      co_take 1 (TT Sh) RA.rl hA hw (skip) (co_quiet (TT Sh))
      co_take 2 (TT Sh) RA.rl hA hw (skip) (co_quiet (TT Sh))
      co_take 3 (TT Sh) RA.rl hA hw (skip) (co_quiet (TT Sh))
      co_take 4 (TT Sh) RA.rl hA hw (skip) (co_still (TT Sh))
      co_take 5 (TT Sh) RA.rl hA hw (have hc := cell_ext hw.ext (hI.row _ _ hut)) (refine rd_old hS hw.ext (hI.row _ _ hut) (by rfl) (fun e he => ?_); have hm := mem_listed he; simp [go_sem, *] at hm; exact hm)
      co_take 6 (TT Sh) RA.rl hA hw (skip) (co_quiet (TT Sh))
      co_take 7 (TT Sh) RA.rl hA hw (skip) (co_quiet (TT Sh))
      co_take 8 (TT Sh) RA.rl hA hw (skip) (co_still (TT Sh))
      co_take 9 (TT Sh) RA.rl hA hw (have hc := hw.cell hAx) (refine rd_own hS hw.lo (block_of_cell hc) (fun e he => ?_); have hm := mem_listed he; simp [go_sem, *] at hm; exact hm)
      co_take 10 (TT Sh) RA.rl hA hw (skip) (co_still (TT Sh))
      co_take 11 (TT Sh) RA.rl hA hw (have hc := cell_ext hw.ext hsc) (refine rd_old hS hw.ext (hsc) (by rfl) (fun e he => ?_); have hm := mem_listed he; simp [go_sem, *] at hm; exact hm)
      co_take 12 (TT Sh) RA.rl hA hw (have hb := bldR (tt : Int) sx; have hb' := bldRE (tt : Int) sx) (co_still (TT Sh))
      refine anyCH_all (rs := [13]) (by kernel_rfl) (by simp) (fun i' hi' => ?_)
      obtain rfl : i' = 13 := by simpa using hi'
      refine opC_k rfl rfl (fun w hR K hK => ?_)
      replace hF := RF.rl hF hR
      clear hR hA
      have hm := blsR (tt : Int) sx
      have hm' := blsRE (tt : Int) sx
      go_simp
      refine hK _ _ ⟨by rw [listed_nil (by simp [go_sem, *])]; exact al_hd (by simp), ?_⟩
      clear hK hm hm' K
      try walk_nrm
      have hFa := hF.alloc (.cells #[.int .i64 (tt : Int), .string sx] 41)
      refine ⟨hFa.ra, ?_⟩
      refine anyCH_all (rs := [14]) (by kernel_rfl) (by simp) (fun i' hi' => ?_)
      obtain rfl : i' = 14 := by simpa using hi'
      refine opC_append hS rfl rfl (.tmp 33) (.tmp 46) 35 rfl (by kernel_rfl) hit hz1 hz2 hz3 (by rfl) (by omega) (by rfl) (by rfl) (by omega) (news := [.int .i64 (tt : Int), .string sx]) (by rfl) (by simp [Value.oneCell']) (by simp only [maxLen]; omega) (by omega) ⟨hFa.ext, hFa.row⟩ (news_at _ _ _ _ (by rfl)) hF.ext.size (fun v' w₁ w' r hg hE => ?_)
      have hFb : RF W ab A v' (E ++ [((tt : Int), sx)]) w' := hFa.grown r hg (by rw [List.length_append, evCells_add]; exact hE)
      clear hF hFa hE hg r
      have hF := hFb
      clear hFb
      try walk_nrm
      refine ⟨hF.ra, ?_⟩
      refine anyCH_all (rs := [15]) (by kernel_rfl) (by simp) (fun i' hi' => ?_)
      obtain rfl : i' = 15 := by simpa using hi'
      refine opC_k rfl rfl (fun w hR K hK => ?_)
      replace hF := RF.rl hF hR
      clear hR
      go_simp
      refine hK _ _ ⟨by rw [listed_nil (by simp [go_sem])]; exact Terms.idle (TT Sh) _, ?_⟩
      clear hK K
      try walk_nrm
      refine ⟨hF.ra, ?_⟩
      co_done
      co_reg (TT Sh)
      co_op RF.rl hF (co_quiet (TT Sh))
      co_op RF.rl hF (co_quiet (TT Sh))
      co_opw RF.rl hF (skip) (co_still (TT Sh))
      co_opw RF.rl hF (have hc := hF.cell hAx) (refine rd_own hS hF.lo (block_of_cell hc) (fun e he => ?_); have hm := mem_listed he; simp [go_sem, *] at hm; exact hm)
      clear hc
      have hwx : IntKind.i64.wrap ((x : Int) + 1) = ((x + 1 : Nat) : Int) := by rw [IntKind.wrap_i64]; omega
      co_op RF.rl hF (co_quiet (TT Sh))
      co_opw RF.rl hF (skip) (co_still (TT Sh))
      co_opw RF.rl hF (have hc := hF.cell hAx; have hz := hF.unfrozen tt) (refine wr_own hS hF.lo (block_of_cell hc) (fun e he => ?_); have hm := mem_listed he; simp [go_sem, storedEv, events_store_int, *] at hm; exact hm)
      clear hc hz
      try simp only [hwx]
      replace hF := hF.set tt (x + 1)
      co_apply opsC_nil (TT Sh)
      co_then
      co_reg (TT Sh)
      co_op RF.rl hF (co_quiet (TT Sh))
      co_op RF.rl hF (co_quiet (TT Sh))
      co_op RF.rl hF (co_quiet (TT Sh))
      co_apply opsC_nil (TT Sh)
      co_then
      have hwr : IntKind.i64.wrap ((i : Int) + 1) = ((i + 1 : Nat) : Int) := by rw [IntKind.wrap_i64]; omega
      refine ⟨⟨_, i + 1, A.set tt (x + 1), E ++ [((tt : Int), sx)], _, rfl, rfl, rfl, rfl, rfl, rfl, by simp [hwr], by omega, ?_, by simp; omega, by simp; omega, set_bd hbd (by omega), by first | (simp; omega) | omega, hF⟩, ?_⟩
      · rw [take_snoc hti]
        exact isSt_snoc hst (refStep_some hAx hsx)
      · simp [slotN, hwr]; omega
    · intro ht
      co_apply wpC_skip (TT Sh)
      co_then
      co_reg (TT Sh)
      co_op RF.rl hF (co_quiet (TT Sh))
      co_op RF.rl hF (co_quiet (TT Sh))
      co_opw RF.rl hF (skip) (co_still (TT Sh))
      co_opw RF.rl hF (have hc := hF.cell hAx) (refine rd_own hS hF.lo (block_of_cell hc) (fun e he => ?_); have hm := mem_listed he; simp [go_sem, *] at hm; exact hm)
      clear hc
      have hwx : IntKind.i64.wrap ((x : Int) + 1) = ((x + 1 : Nat) : Int) := by rw [IntKind.wrap_i64]; omega
      co_op RF.rl hF (co_quiet (TT Sh))
      co_opw RF.rl hF (skip) (co_still (TT Sh))
      co_opw RF.rl hF (have hc := hF.cell hAx; have hz := hF.unfrozen tt) (refine wr_own hS hF.lo (block_of_cell hc) (fun e he => ?_); have hm := mem_listed he; simp [go_sem, storedEv, events_store_int, *] at hm; exact hm)
      clear hc hz
      try simp only [hwx]
      replace hF := hF.set tt (x + 1)
      co_apply opsC_nil (TT Sh)
      co_then
      have hxl : (Sk L tt).length ≤ x := by have := of_decide_eq_false ht; omega
      co_reg (TT Sh)
      co_op RF.rl hF (co_quiet (TT Sh))
      co_op RF.rl hF (co_quiet (TT Sh))
      co_op RF.rl hF (co_quiet (TT Sh))
      co_apply opsC_nil (TT Sh)
      co_then
      have hwr : IntKind.i64.wrap ((i : Int) + 1) = ((i + 1 : Nat) : Int) := by rw [IntKind.wrap_i64]; omega
      refine ⟨⟨_, i + 1, A.set tt (x + 1), E, _, rfl, rfl, rfl, rfl, rfl, rfl, by simp [hwr], by omega, ?_, by simp; omega, by simp; omega, set_bd hbd (by omega), by first | (simp; omega) | omega, hF⟩, ?_⟩
      · rw [take_snoc hti]
        exact isSt_snoc hst (refStep_none hAx hxl)
      · simp [slotN, hwr]; omega
  · intro ht
    have hil : i = ps.length := by have : ¬ i < ps.length := (by simpa using ht); omega
    co_apply wpC_exit (TT Sh)
    co_then
    refine ⟨_, _, A, E, rfl, rfl, rfl, rfl, rfl, ?_, hA1, hA2, fun x hx => by have := hbd x hx; omega, by omega, hF⟩
    rw [List.take_of_length_le (by omega)] at hst
    exact hst
end
end Go.Proofs.Ytggfcdhkgldbfaa
