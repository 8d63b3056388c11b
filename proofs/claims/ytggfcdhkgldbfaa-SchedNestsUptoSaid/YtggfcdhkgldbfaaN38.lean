/-
  PARTS of a claim, merged by segs.py: NwRef2.
-/
import Derived.Test.YtggfcdhkgldbfaaN37
namespace Go.Proofs.Ytggfcdhkgldbfaa
set_option linter.unusedSimpArgs false
set_option linter.unusedVariables false

/-! ### NwRef2 -/
section
set_option linter.unusedSimpArgs false
open Go Go.Conc Go.RowKit Go.ConcR.Gen Cw

def cellN (w : World) (b k : Nat) : Nat := match w.cell? ⟨b, k, none⟩ with
  | some (.int _ i) => i.toNat
  | _ => 0
def IsDr (L : List (List ByteArray)) (s1 : List Nat × List (Int × ByteArray)) (i : Nat) (A : List Nat) (E : List (Int × ByteArray)) : Prop := (List.range i).foldl (refDrain L) s1 = (A, E)
def IsDt (L : List (List ByteArray)) (A : List Nat) (E : List (Int × ByteArray)) (i : Nat) (A' : List Nat) (E' : List (Int × ByteArray)) : Prop := refDrain L (A, E) i = (A', E')
theorem isDt_step {L : List (List ByteArray)} {A A' : List Nat} {E E' : List (Int × ByteArray)} {tt x : Nat} {sx : ByteArray} (hl : tt < A.length) (hA : A[tt]? = some x) (hs : (Sk L tt)[x]? = some sx) (h : IsDt L A E tt A' E') : IsDt L (A.set tt (x + 1)) (E ++ [((tt : Int), sx)]) tt A' E' := by
  unfold IsDt refDrain at h ⊢
  have hlt := (List.getElem?_eq_some_iff.1 hs).1
  have e1 : (A.getD tt 0) = x := by simp [List.getD_eq_getElem?_getD, hA]
  have e2 : ((A.set tt (x + 1)).getD tt 0) = x + 1 := by simp [List.getD_eq_getElem?_getD, hl]
  simp only at h ⊢
  rw [e1, show (Sk L tt).length - x = ((Sk L tt).length - (x + 1)) + 1 by omega, itr, refStep_some hA hs] at h
  rw [e2]
  exact h
theorem isDt_end {L : List (List ByteArray)} {A A' : List Nat} {E E' : List (Int × ByteArray)} {tt x : Nat} (hA : A[tt]? = some x) (hs : (Sk L tt).length ≤ x) (h : IsDt L A E tt A' E') : A' = A ∧ E' = E := by
  unfold IsDt refDrain at h
  have e1 : (A.getD tt 0) = x := by simp [List.getD_eq_getElem?_getD, hA]
  simp only at h
  rw [e1, show (Sk L tt).length - x = 0 by omega, itr] at h
  cases h
  exact ⟨rfl, rfl⟩
theorem isDr_snoc {L : List (List ByteArray)} {s1 : List Nat × List (Int × ByteArray)} {i : Nat} {A A' : List Nat} {E E' : List (Int × ByteArray)} (h : IsDr L s1 i A E) (hd : IsDt L A E i A' E') : IsDr L s1 (i + 1) A' E' := by
  unfold IsDr IsDt at *
  rw [List.range_succ, List.foldl_append, h]
  exact hd
theorem set_le {A : List Nat} {k y b : Nat} (h : ∀ x ∈ A, x ≤ b) (hy : y ≤ b) : ∀ x ∈ A.set k y, x ≤ b := by
  intro x hx
  rcases List.mem_or_eq_of_mem_set hx with h1 | h1
  · exact h x h1
  · omega
theorem cellN_of {w : World} {b k x : Nat} (h : w.cell? ⟨b, k, none⟩ = some (.int .i64 x)) : cellN w b k = x := by simp [cellN, h]
set_option maxRecDepth 100000 in
set_option maxHeartbeats 4000000 in
theorem c_l13b {Sh : Loc → Prop} {W : World} {main : Bool} (hS : ShOk Sh W) {lp lo n lcap : Nat} {us : List Value} {L : List (List ByteArray)} (hI : Rin W lp lo us L) (hn : us.length ≤ n ∧ n ≤ us.length) (hn64 : n ≤ 64) :
    ∃ k, ∀ (ab : Nat) (Qx : Exit → Act → World → Prop) (s1 : List Nat × List (Int × ByteArray)) (T : Array Value) (u : Value) (A : List Nat) (E : List (Int × ByteArray)) (w : World), T.size = 92 → T[1]? = some (.slice (some ⟨lp, lo, none⟩) n lcap) → T[5]? = some (.slice (some ⟨ab, 0, none⟩) n n) → T[6]? = some u → IsDr L s1 0 A E → A.length ≤ n ∧ n ≤ A.length → (∀ x ∈ A, x ≤ 1000000) → E.length ≤ 4096 → RF W ab A u E w →
      l13b.wpC Try.prog main (Ext Vn) (HDq (Cx0 Sh)) 13 k (Exit.then (fun a' w' => ∃ T u A E, a' = ⟨T, []⟩ ∧ T.size = 92 ∧ T[6]? = some u ∧ IsDr L s1 n A E ∧ E.length ≤ 100000000 ∧ RF W ab A u E w') Qx) ⟨T, []⟩ w := by
  obtain ⟨it, hit, hz1, hz2, hz3⟩ := reInfo
  co_apply Exists.intro
  intro ab Qx s1 T u A E w hT h1 h5 h6 hdr hAl hbd hEl hF
  obtain ⟨v0, v1, v2, v3, v4, v5, v6, v7, v8, v9, v10, v11, v12, v13, v14, v15, v16, v17, v18, v19, v20, v21, v22, v23, v24, v25, v26, v27, v28, v29, v30, v31, v32, v33, v34, v35, v36, v37, v38, v39, v40, v41, v42, v43, v44, v45, v46, v47, v48, v49, v50, v51, v52, v53, v54, v55, v56, v57, v58, v59, v60, v61, v62, v63, v64, v65, v66, v67, v68, v69, v70, v71, v72, v73, v74, v75, v76, v77, v78, v79, v80, v81, v82, v83, v84, v85, v86, v87, v88, v89, v90, v91, rfl⟩ := arr92 T hT
  simp only [List.getElem?_toArray, List.getElem?_cons_zero, List.getElem?_cons_succ, Option.some.injEq] at h1 h5 h6
  subst h1
  subst h5
  subst h6
  simp only [l13b, code13, rt, lf, Try.f13, Option.getD_some]
  co_apply wpC_seq (TT Sh)
  co_reg (TT Sh)
  co_op RF.rl hF (co_quiet (TT Sh))
  co_apply opsC_nil (TT Sh)
  co_then
  co_apply wpC_block (TT Sh)
  co_apply wpC_loop (TT Sh) (fun a' w' => ∃ (T : Array Value) (tt : Nat) (A : List Nat) (E : List (Int × ByteArray)) (u : Value), a' = ⟨T, []⟩ ∧ T.size = 92 ∧ T[1]? = some (.slice (some ⟨lp, lo, none⟩) n lcap) ∧ T[5]? = some (.slice (some ⟨ab, 0, none⟩) n n) ∧ T[6]? = some (u) ∧ T[9]? = some (.int .i64 tt) ∧ tt ≤ n ∧ IsDr L s1 tt A E ∧ (A.length ≤ n ∧ n ≤ A.length) ∧ (∀ x ∈ A, x ≤ 1000000) ∧ E.length ≤ 4096 + tt * 1000000 ∧ RF W ab A u E w') (fun a' _ => n - slotN a' 9) _ (n)
  · exact ⟨_, 0, A, E, _, rfl, rfl, rfl, rfl, rfl, rfl, by omega, hdr, hAl, hbd, by omega, hF⟩
  · simp [slotN]
  clear hF hEl hbd hAl hdr w
  rintro a' w ⟨T, tt, A, E, u, rfl, hT, h1, h5, h6, h9, hi, hdr, hAl, hbd, hEl, hF⟩
  obtain ⟨v0, v1, v2, v3, v4, v5, v6, v7, v8, v9, v10, v11, v12, v13, v14, v15, v16, v17, v18, v19, v20, v21, v22, v23, v24, v25, v26, v27, v28, v29, v30, v31, v32, v33, v34, v35, v36, v37, v38, v39, v40, v41, v42, v43, v44, v45, v46, v47, v48, v49, v50, v51, v52, v53, v54, v55, v56, v57, v58, v59, v60, v61, v62, v63, v64, v65, v66, v67, v68, v69, v70, v71, v72, v73, v74, v75, v76, v77, v78, v79, v80, v81, v82, v83, v84, v85, v86, v87, v88, v89, v90, v91, rfl⟩ := arr92 T hT
  simp only [List.getElem?_toArray, List.getElem?_cons_zero, List.getElem?_cons_succ, Option.some.injEq] at h1 h5 h6 h9
  subst h1
  subst h5
  subst h6
  subst h9
  co_apply wpC_seq (TT Sh)
  co_apply wpC_seq (TT Sh)
  co_reg (TT Sh)
  co_op RF.rl hF (co_quiet (TT Sh))
  co_op RF.rl hF (co_quiet (TT Sh))
  co_op RF.rl hF (co_quiet (TT Sh))
  co_op RF.rl hF (co_quiet (TT Sh))
  co_apply opsC_nil (TT Sh)
  co_then
  co_split (TT Sh) (decide ((tt : Int) < (n : Int)))
  · intro ht
    have hil : tt < n := by simpa using ht
    co_apply wpC_skip (TT Sh)
    co_then
    co_apply wpC_seq (TT Sh)
    co_apply wpC_block (TT Sh)
    co_apply wpC_block (TT Sh)
    obtain ⟨At, Et, hdt⟩ : ∃ At Et, IsDt L A E tt At Et := ⟨_, _, rfl⟩
    have hdr0 := hdr
    have hdt0 := hdt
    clear hdr
    have hbdt := hI.bd tt
    obtain ⟨sa, sc, hut0, hnt0⟩ := hI.sl tt (by omega)
    co_apply wpC_loop (TT Sh) (fun a' w' => ∃ (T : Array Value) (A : List Nat) (E : List (Int × ByteArray)) (u : Value), a' = ⟨T, []⟩ ∧ T.size = 92 ∧ T[1]? = some (.slice (some ⟨lp, lo, none⟩) n lcap) ∧ T[5]? = some (.slice (some ⟨ab, 0, none⟩) n n) ∧ T[6]? = some (u) ∧ T[9]? = some (.int .i64 tt) ∧ IsDt L A E tt At Et ∧ (A.length ≤ n ∧ n ≤ A.length) ∧ (∀ x ∈ A, x ≤ 1000000) ∧ (∃ x, A[tt]? = some x ∧ E.length + ((Sk L tt).length - x) ≤ 4096 + tt * 1000000 + 1000000) ∧ RF W ab A u E w') (fun a' w' => (Sk L tt).length - cellN w' ab tt) _ (1000000)
    · obtain ⟨x, hAx⟩ : ∃ x, A[tt]? = some x := ⟨_, List.getElem?_eq_getElem (by omega)⟩
      exact ⟨_, A, E, _, rfl, rfl, rfl, rfl, rfl, rfl, hdt, hAl, hbd, ⟨x, hAx, by omega⟩, hF⟩
    · omega
    clear hF hdt hAl hbd hEl
    rintro a' w ⟨T, A, E, u, rfl, hT, h1, h5, h6, h9, hdt, hAl, hbd, ⟨x, hAx, hEx⟩, hF⟩
    obtain ⟨v0, v1, v2, v3, v4, v5, v6, v7, v8, v9, v10, v11, v12, v13, v14, v15, v16, v17, v18, v19, v20, v21, v22, v23, v24, v25, v26, v27, v28, v29, v30, v31, v32, v33, v34, v35, v36, v37, v38, v39, v40, v41, v42, v43, v44, v45, v46, v47, v48, v49, v50, v51, v52, v53, v54, v55, v56, v57, v58, v59, v60, v61, v62, v63, v64, v65, v66, v67, v68, v69, v70, v71, v72, v73, v74, v75, v76, v77, v78, v79, v80, v81, v82, v83, v84, v85, v86, v87, v88, v89, v90, v91, rfl⟩ := arr92 T hT
    simp only [List.getElem?_toArray, List.getElem?_cons_zero, List.getElem?_cons_succ, Option.some.injEq] at h1 h5 h6 h9
    subst h1
    subst h5
    subst h6
    subst h9
    have hxb := hbd x (List.mem_of_getElem? hAx)
    have hc00 := hF.cell hAx
    have hut := hut0
    have hnt := hnt0
    co_apply wpC_seq (TT Sh)
    co_apply wpC_seq (TT Sh)
    co_held (TT Sh) (lets0 Sh) draw_ext (RA W ab A) RF.rl hF
    have hA := hF.ra
    co_take 0 (TT Sh) RA.rl hA hw (skip) (co_quiet (TT Sh))
    co_take 1 (TT Sh) RA.rl hA hw (skip) (co_quiet (TT Sh))
    co_take 2 (TT Sh) RA.rl hA hw (skip) (co_still (TT Sh))
    co_take 3 (TT Sh) RA.rl hA hw (have hc := hw.cell hAx) (refine rd_own hS hw.lo (block_of_cell hc) (fun e he => ?_); have hm := mem_listed he; simp [go_sem, *] at hm; exact hm)
    co_take 4 (TT Sh) RA.rl hA hw (skip) (co_quiet (TT Sh))
    co_take 5 (TT Sh) RA.rl hA hw (skip) (co_quiet (TT Sh))
    co_take 6 (TT Sh) RA.rl hA hw (skip) (co_still (TT Sh))
    co_take 7 (TT Sh) RA.rl hA hw (have hc := cell_ext hw.ext (hI.row _ _ hut)) (refine rd_old hS hw.ext (hI.row _ _ hut) (by rfl) (fun e he => ?_); have hm := mem_listed he; simp [go_sem, *] at hm; exact hm)
    co_take 8 (TT Sh) RA.rl hA hw (skip) (co_quiet (TT Sh))
    co_take 9 (TT Sh) RA.rl hA hw (skip) (co_quiet (TT Sh))
    co_done
    co_split (TT Sh) (decide ((x : Int) < ((Sk L tt).length : Int)))
    · intro ht
      have hxl : x < (Sk L tt).length := by have := of_decide_eq_true ht; omega
      obtain ⟨sx, hsx⟩ : ∃ sx, (Sk L tt)[x]? = some sx := ⟨_, List.getElem?_eq_getElem hxl⟩
      obtain ⟨sp, so, hsa, hsc0⟩ := hnt.resolve_left (fun e => by rw [e] at hxl; simp at hxl)
      rw [hsa] at hut
      have hsc := hsc0 x sx hsx
      clear hsc0 hsa hnt
      co_apply wpC_skip (TT Sh)
      co_then
      co_apply wpC_block (TT Sh)
      co_apply wpC_seq (TT Sh)
      co_held (TT Sh) (lets0 Sh) draw_ext (RA W ab A) RF.rl hF
      have hA := hF.ra
      co_take 0 (TT Sh) RA.rl hA hw (skip) (co_quiet (TT Sh))
      co_take 1 (TT Sh) RA.rl hA hw (skip) (co_quiet (TT Sh))
      co_take 2 (TT Sh) RA.rl hA hw (skip) (co_quiet (TT Sh))
      co_take 3 (TT Sh) RA.rl hA hw (skip) (co_quiet (TT Sh))
      co_take 4 (TT Sh) RA.rl hA hw (skip) (co_still (TT Sh))
      co_take 5 (TT Sh) RA.rl hA hw (have hc := cell_ext hw.ext (hI.row _ _ hut)) (refine rd_old hS hw.ext (hI.row _ _ hut) (by rfl) (fun e he => ?_); have hm := mem_listed he; simp [go_sem, *] at hm; exact hm)
      co_take 6 (TT Sh) RA.rl hA hw (skip) (co_quiet (TT Sh))
      co_take 7 (TT Sh) RA.rl hA hw (skip) (co_quiet (TT Sh))
      co_take 8 (TT Sh) RA.rl hA hw (skip) (co_still (TT Sh))
      co_take 9 (TT Sh) RA.rl hA hw (have hc := hw.cell hAx) (refine rd_own hS hw.lo (block_of_cell hc) (fun e he => ?_); have hm := mem_listed he; simp [go_sem, *] at hm; exact hm)
      co_take 10 (TT Sh) RA.rl hA hw (skip) (co_still (TT Sh))
      co_take 11 (TT Sh) RA.rl hA hw (have hc := cell_ext hw.ext hsc) (refine rd_old hS hw.ext (hsc) (by rfl) (fun e he => ?_); have hm := mem_listed he; simp [go_sem, *] at hm; exact hm)
      co_take 12 (TT Sh) RA.rl hA hw (have hb := bldR (tt : Int) sx; have hb' := bldRE (tt : Int) sx) (co_still (TT Sh))
      refine anyCH_all (rs := [13]) (by kernel_rfl) (by simp) (fun i' hi' => ?_)
      obtain rfl : i' = 13 := by simpa using hi'
      refine opC_k rfl rfl (fun w hR K hK => ?_)
      replace hF := RF.rl hF hR
      clear hR hA
      have hm := blsR (tt : Int) sx
      have hm' := blsRE (tt : Int) sx
      go_simp
      refine hK _ _ ⟨by rw [listed_nil (by simp [go_sem, *])]; exact al_hd (by simp), ?_⟩
      clear hK hm hm' K
      try walk_nrm
      have hFa := hF.alloc (.cells #[.int .i64 (tt : Int), .string sx] 41)
      refine ⟨hFa.ra, ?_⟩
      refine anyCH_all (rs := [14]) (by kernel_rfl) (by simp) (fun i' hi' => ?_)
      obtain rfl : i' = 14 := by simpa using hi'
      refine opC_append hS rfl rfl (.tmp 70) (.tmp 83) 35 rfl (by kernel_rfl) hit hz1 hz2 hz3 (by rfl) (by omega) (by rfl) (by rfl) (by omega) (news := [.int .i64 (tt : Int), .string sx]) (by rfl) (by simp [Value.oneCell']) (by simp only [maxLen]; omega) (by omega) ⟨hFa.ext, hFa.row⟩ (news_at _ _ _ _ (by rfl)) hF.ext.size (fun v' w₁ w' r hg hE => ?_)
      have hFb : RF W ab A v' (E ++ [((tt : Int), sx)]) w' := hFa.grown r hg (by rw [List.length_append, evCells_add]; exact hE)
      clear hF hFa hE hg r
      have hF := hFb
      clear hFb
      try walk_nrm
      refine ⟨hF.ra, ?_⟩
      refine anyCH_all (rs := [15]) (by kernel_rfl) (by simp) (fun i' hi' => ?_)
      obtain rfl : i' = 15 := by simpa using hi'
      refine opC_k rfl rfl (fun w hR K hK => ?_)
      replace hF := RF.rl hF hR
      clear hR
      go_simp
      refine hK _ _ ⟨by rw [listed_nil (by simp [go_sem])]; exact Terms.idle (TT Sh) _, ?_⟩
      clear hK K
      try walk_nrm
      refine ⟨hF.ra, ?_⟩
      co_done
      co_reg (TT Sh)
      co_op RF.rl hF (co_quiet (TT Sh))
      co_op RF.rl hF (co_quiet (TT Sh))
      co_opw RF.rl hF (skip) (co_still (TT Sh))
      co_opw RF.rl hF (have hc := hF.cell hAx) (refine rd_own hS hF.lo (block_of_cell hc) (fun e he => ?_); have hm := mem_listed he; simp [go_sem, *] at hm; exact hm)
      clear hc
      have hwx : IntKind.i64.wrap ((x : Int) + 1) = ((x + 1 : Nat) : Int) := by rw [IntKind.wrap_i64]; omega
      co_op RF.rl hF (co_quiet (TT Sh))
      co_opw RF.rl hF (skip) (co_still (TT Sh))
      co_opw RF.rl hF (have hc := hF.cell hAx; have hz := hF.unfrozen tt) (refine wr_own hS hF.lo (block_of_cell hc) (fun e he => ?_); have hm := mem_listed he; simp [go_sem, storedEv, events_store_int, *] at hm; exact hm)
      clear hc hz
      try simp only [hwx]
      replace hF := hF.set tt (x + 1)
      co_apply opsC_nil (TT Sh)
      co_then
      refine ⟨⟨_, A.set tt (x + 1), E ++ [((tt : Int), sx)], _, rfl, rfl, rfl, rfl, rfl, rfl, isDt_step (by omega) hAx hsx hdt, by simp; omega, set_le hbd (by omega), ⟨x + 1, by simp [show tt < A.length by omega], by simp; omega⟩, hF⟩, ?_⟩
      have hcw := cellN_of (hF.cell (k := tt) (x := x + 1) (by simp [show tt < A.length by omega]))
      rw [show ((x + 1 : Nat) : Int) = (x : Int) + 1 by omega] at hcw
      rw [hcw, cellN_of hc00]
      omega
    · intro ht
      have hxl : (Sk L tt).length ≤ x := by have := of_decide_eq_false ht; omega
      co_apply wpC_exit (TT Sh)
      co_then
      obtain ⟨rfl, rfl⟩ := isDt_end hAx hxl hdt
      co_reg (TT Sh)
      co_op RF.rl hF (co_quiet (TT Sh))
      co_op RF.rl hF (co_quiet (TT Sh))
      co_op RF.rl hF (co_quiet (TT Sh))
      co_apply opsC_nil (TT Sh)
      co_then
      have hwr : IntKind.i64.wrap ((tt : Int) + 1) = ((tt + 1 : Nat) : Int) := by rw [IntKind.wrap_i64]; omega
      refine ⟨⟨_, tt + 1, _, _, _, rfl, rfl, rfl, rfl, rfl, by simp [hwr], by omega, isDr_snoc hdr0 hdt0, hAl, hbd, by omega, hF⟩, ?_⟩
      simp [slotN, hwr]
      omega
  · intro ht
    have hil : tt = n := by have : ¬ tt < n := (by simpa using ht); omega
    co_apply wpC_exit (TT Sh)
    co_then
    exact ⟨_, _, A, E, rfl, rfl, rfl, hil ▸ hdr, by omega, hF⟩
end
end Go.Proofs.Ytggfcdhkgldbfaa
