/-
  PARTS of a claim, merged by segs.py: CwSh3, CwOwn, CwAwk.
-/
import Derived.Test.YtggfcdhkgldbfaaDoorS35
import Derived.Test.YtggfcdhkgldbfaaDoorS33
import Derived.Test.YtggfcdhkgldbfaaDoorS28
import Derived.Test.YtggfcdhkgldbfaaDoorS30
import Derived.Test.YtggfcdhkgldbfaaDoorS31
import Derived.Test.YtggfcdhkgldbfaaDoorS34
namespace Go.Proofs.YtggfcdhkgldbfaaDoor
set_option linter.unusedSimpArgs false
set_option linter.unusedVariables false

/-! ### CwSh3 -/
section
set_option linter.unusedSimpArgs false
open Go Go.Conc Go.RowKit Go.ConcR.Gen Cw

theorem lgetD {α : Type _} {l : List α} {k : Nat} {x d : α} (h : l[k]? = some x) : l.getD k d = x := by simp [List.getD_eq_getElem?_getD, h]
set_option maxRecDepth 100000 in
set_option maxHeartbeats 8000000 in
theorem c_shtail {Sh : Loc → Prop} {W : World} {main : Bool} (hS : ShOk Sh W) {pv pl pr pp pw t : Nat} (ht3 : t < 3) :
    ∃ k, ∀ (Post : Value → World → Prop) (T : Array Value) (c : Sim) (u : Value) (w : World), T.size = 38 → T[0]? = some (.int .i64 t) → T[1]? = some (pb pp) → T[2]? = some (pb pr) → T[3]? = some (pb pv) → T[4]? = some (pb pl) → T[5]? = some (pb pw) →
      c.left.length = 3 → c.read.length = 3 → c.pend.length = 3 → c.v < 100 → (∀ x ∈ c.left, x < 98) → c.E.length < 1000 → RS W pv pl pr pp pw c u w →
      (∀ u' w', RS W pv pl pr pp pw (if c.left.getD t 0 = 0 then c else c.beg t) u' w' → Post (.bool (c.res t)) w') →
      (rt (rt body7)).wpC Tryd.prog main (Ext Vn) (HDq (Cx0 Sh)) 7 k (bodyPostC Tryd.prog Tryd.f7 Post) ⟨T, []⟩ w := by
  obtain ⟨n7, hk7⟩ := c_sh7 (main := main) hS (pv := pv) (pl := pl) (pr := pr) (pp := pp) (pw := pw) (t := t)
  co_apply Exists.intro
  intro Post T c u w hT h0 h1 h2 h3 h4 h5 hl3 hr3 hcp hcv hl98 hcE hF hPost
  obtain ⟨xl, hcl⟩ : ∃ x, c.left[t]? = some x := ⟨_, List.getElem?_eq_getElem (by omega)⟩
  obtain ⟨xr, hcr⟩ : ∃ x, c.read[t]? = some x := ⟨_, List.getElem?_eq_getElem (by omega)⟩
  obtain ⟨bc, hbc⟩ : ∃ x, c.pend[t]? = some x := ⟨_, List.getElem?_eq_getElem (by omega)⟩
  have hti : (t : Int) < 3 := by omega
  have hxl98 := hl98 xl (List.mem_of_getElem? hcl)
  clear hl98
  rw [arrG38 T hT]
  simp only [gv_of h0, gv_of h1, gv_of h2, gv_of h3, gv_of h4, gv_of h5]
  simp only [body7, rt, lf, Tryd.f7, Option.getD_some]
  co_apply wpC_seq (TT Sh)
  co_apply wpC_seq (TT Sh)
  co_reg (TT Sh)
  co_op RS.rl hF (co_quiet (TT Sh))
  co_opw RS.rl hF (have hm' := iaE35 pl t hti) (rw [listed_nil (by simp [go_sem, *])]; exact Terms.idle (TT Sh) _)
  clear hm'
  co_opw RS.rl hF (have hc := hF.q.cl hcl) (refine rd_own hS (by have := hF.q.lo; show _ ≤ pl; omega) (block_of_cell hc) (fun e he => ?_); have hm := mem_listed he; simp [go_sem, *] at hm; exact hm)
  clear hc
  co_op RS.rl hF (co_quiet (TT Sh))
  co_apply opsC_nil (TT Sh)
  co_then
  co_split (TT Sh) ((xl : Int) == 0)
  · intro ht
    have hx0 : xl = 0 := by have := eq_of_beq ht; omega
    co_apply wpC_seq (TT Sh)
    co_reg (TT Sh)
    co_op RS.rl hF (co_quiet (TT Sh))
    co_apply opsC_nil (TT Sh)
    co_then
    co_apply wpC_ret (TT Sh)
    try co_then
    refine ⟨rfl, _, resultsC_tmp (by rfl) _, ?_⟩
    have hP := hPost u _ (by rw [lgetD hcl, if_pos hx0]; exact hF)
    have e : c.res t = false := by unfold Sim.res; rw [lgetD hcl]; simp [hx0]
    rw [e] at hP
    exact hP
  · intro ht
    have hx0 : xl ≠ 0 := by have := ne_of_beq_false ht; omega
    co_apply wpC_skip (TT Sh)
    co_then
    have hws : IntKind.i64.wrap ((xl : Int) - 1) = ((xl - 1 : Nat) : Int) := by rw [IntKind.wrap_i64]; omega
    co_apply wpC_seq (TT Sh)
    co_reg (TT Sh)
    co_op RS.rl hF (co_quiet (TT Sh))
    co_opw RS.rl hF (have hm' := iaE35 pl t hti) (rw [listed_nil (by simp [go_sem, *])]; exact Terms.idle (TT Sh) _)
    clear hm'
    co_opw RS.rl hF (have hc := hF.q.cl hcl) (refine rd_own hS (by have := hF.q.lo; show _ ≤ pl; omega) (block_of_cell hc) (fun e he => ?_); have hm := mem_listed he; simp [go_sem, *] at hm; exact hm)
    clear hc
    co_op RS.rl hF (co_quiet (TT Sh))
    try simp only [hws]
    co_opw RS.rl hF (have hm' := iaE35 pl t hti) (rw [listed_nil (by simp [go_sem, *])]; exact Terms.idle (TT Sh) _)
    clear hm'
    co_opw RS.rl hF (have hc := hF.q.cl hcl; have hz := hF.q.zl t) (refine wr_own hS (by have := hF.q.lo; show _ ≤ pl; omega) (block_of_cell hc) (fun e he => ?_); have hm := mem_listed he; simp [go_sem, storedEv, events_store_int, *] at hm; exact hm)
    clear hc hz
    replace hF := hF.setl t (xl - 1)
    co_apply opsC_nil (TT Sh)
    co_then
    co_apply wpC_seq (TT Sh)
    co_reg (TT Sh)
    co_op RS.rl hF (co_quiet (TT Sh))
    co_op RS.rl hF (co_quiet (TT Sh))
    co_opw RS.rl hF (have hc := hF.q.cv) (refine rd_own hS (by have := hF.q.lo; show _ ≤ pv; omega) (block_of_cell hc) (fun e he => ?_); have hm := mem_listed he; simp [go_sem, *] at hm; exact hm)
    clear hc
    co_opw RS.rl hF (have hm' := iaE35 pr t hti) (rw [listed_nil (by simp [go_sem, *])]; exact Terms.idle (TT Sh) _)
    clear hm'
    co_opw RS.rl hF (have hc := hF.q.cr hcr; have hz := hF.q.zr t) (refine wr_own hS (by have := hF.q.lo; show _ ≤ pr; omega) (block_of_cell hc) (fun e he => ?_); have hm := mem_listed he; simp [go_sem, storedEv, events_store_int, *] at hm; exact hm)
    clear hc hz
    replace hF := hF.setr t c.v
    co_opw RS.rl hF (have hm' := iaE36 pp t hti) (rw [listed_nil (by simp [go_sem, *])]; exact Terms.idle (TT Sh) _)
    clear hm'
    co_opw RS.rl hF (have hc := hF.q.cp hbc; have hz := hF.q.zp t) (refine wr_own hS (by have := hF.q.lo; show _ ≤ pp; omega) (block_of_cell hc) (fun e he => ?_); have hm := mem_listed he; simp [go_sem, storedEv, events_store_bool, *] at hm; exact hm)
    clear hc hz
    replace hF := hF.setp t true
    co_apply opsC_nil (TT Sh)
    co_then
    co_apply wpC_seq (TT Sh)
    refine wpC_more (hk7 _ _ _ _ _ (by exact hcv) (by exact hcE) (by rfl) (by rfl) (by rfl) (by rfl) hF (fun T' u' w hT' hF => ?_)) (Nat.le_refl _)
    try co_then
    rw [arrG38 T' hT']
    co_apply wpC_seq (TT Sh)
    co_reg (TT Sh)
    co_op RS.rl hF (co_quiet (TT Sh))
    co_apply opsC_nil (TT Sh)
    co_then
    co_apply wpC_ret (TT Sh)
    try co_then
    refine ⟨rfl, _, resultsC_tmp (by rfl) _, ?_⟩
    have hP := hPost u' _ (by rw [lgetD hcl, if_neg hx0]; unfold Sim.beg; rw [lgetD hcl]; exact hF)
    have e : c.res t = true := by unfold Sim.res; rw [lgetD hcl]; simp [hx0]
    rw [e] at hP
    exact hP
set_option maxRecDepth 100000 in
set_option maxHeartbeats 8000000 in
theorem c_shstep {Sh : Loc → Prop} {W : World} {main : Bool} (hS : ShOk Sh W) {pv pl pr pp pw t : Nat} (ht3 : t < 3) :
    ∃ k, ∀ (s : Sim) (u : Value) (w : World), s.left.length = 3 → s.read.length = 3 → s.pend.length = 3 → s.v < 98 → (∀ x ∈ s.left, x < 98) → (∀ x ∈ s.read, x < 98) → s.E.length < 1000 → RS W pv pl pr pp pw s u w →
      CallsC Tryd.prog main (Ext Vn) (HDq (Cx0 Sh)) 7 #[.int .i64 t, pb pp, pb pr, pb pv, pb pl, pb pw] k w (fun r w' => r = .bool ((s.comp t).res t) ∧ ∃ u', RS W pv pl pr pp pw (s.step t) u' w') := by
  obtain ⟨nT, hkT⟩ := c_shtail (main := main) hS (pv := pv) (pl := pl) (pr := pr) (pp := pp) (pw := pw) ht3
  co_apply Exists.intro
  intro s u w hl3 hr3 hp3 hv98 hl98 hr98 hE hF
  obtain ⟨xr, hxr⟩ : ∃ x, s.read[t]? = some x := ⟨_, List.getElem?_eq_getElem (by omega)⟩
  obtain ⟨bp, hbp⟩ : ∃ x, s.pend[t]? = some x := ⟨_, List.getElem?_eq_getElem (by omega)⟩
  have hti : (t : Int) < 3 := by omega
  have hxr98 := hr98 xr (List.mem_of_getElem? hxr)
  clear hr98
  co_apply callsC_of_wpC Tryd.func7 (by rfl) rfl
  simp only [Tryd.ntmps7, List.size_toArray, List.length_cons, List.length_nil, Nat.reduceAdd, Nat.reduceSub, Array.replicate_succ, Array.replicate_zero, List.push_toArray, List.append_toArray, List.nil_append, List.cons_append]
  co_apply wpC_seq (TT Sh)
  co_reg (TT Sh)
  co_op RS.rl hF (co_quiet (TT Sh))
  co_apply opsC_nil (TT Sh)
  co_then
  co_apply wpC_seq (TT Sh)
  co_apply wpC_seq (TT Sh)
  co_reg (TT Sh)
  co_op RS.rl hF (co_quiet (TT Sh))
  co_opw RS.rl hF (have hm' := iaE36 pp t hti) (rw [listed_nil (by simp [go_sem, *])]; exact Terms.idle (TT Sh) _)
  clear hm'
  co_opw RS.rl hF (have hc := hF.q.cp hbp) (refine rd_own hS (by have := hF.q.lo; show _ ≤ pp; omega) (block_of_cell hc) (fun e he => ?_); have hm := mem_listed he; simp [go_sem, *] at hm; exact hm)
  clear hc
  co_apply opsC_nil (TT Sh)
  co_then
  co_split (TT Sh) (bp)
  · intro ht
    co_reg (TT Sh)
    co_op RS.rl hF (co_quiet (TT Sh))
    co_op RS.rl hF (co_quiet (TT Sh))
    co_opw RS.rl hF (have hm' := iaE35 pr t hti) (rw [listed_nil (by simp [go_sem, *])]; exact Terms.idle (TT Sh) _)
    clear hm'
    co_opw RS.rl hF (have hc := hF.q.cr hxr) (refine rd_own hS (by have := hF.q.lo; show _ ≤ pr; omega) (block_of_cell hc) (fun e he => ?_); have hm := mem_listed he; simp [go_sem, *] at hm; exact hm)
    clear hc
    have hwx : IntKind.i64.wrap ((xr : Int) + 1) = ((xr + 1 : Nat) : Int) := by rw [IntKind.wrap_i64]; omega
    co_op RS.rl hF (co_quiet (TT Sh))
    try simp only [hwx]
    co_opw RS.rl hF (have hc := hF.q.cv; have hz := hF.q.zv 0) (refine wr_own hS (by have := hF.q.lo; show _ ≤ pv; omega) (block_of_cell hc) (fun e he => ?_); have hm := mem_listed he; simp [go_sem, storedEv, events_store_int, *] at hm; exact hm)
    clear hc hz
    replace hF := hF.setv (xr + 1)
    co_opw RS.rl hF (have hm' := iaE36 pp t hti) (rw [listed_nil (by simp [go_sem, *])]; exact Terms.idle (TT Sh) _)
    clear hm'
    co_opw RS.rl hF (have hc := hF.q.cp hbp; have hz := hF.q.zp t) (refine wr_own hS (by have := hF.q.lo; show _ ≤ pp; omega) (block_of_cell hc) (fun e he => ?_); have hm := mem_listed he; simp [go_sem, storedEv, events_store_bool, *] at hm; exact hm)
    clear hc hz
    replace hF := hF.setp t false
    co_apply opsC_nil (TT Sh)
    co_then
    obtain ⟨c, hc⟩ : ∃ c, s.comp t = c := ⟨_, rfl⟩
    have hce : ({ v := xr + 1, left := s.left, read := s.read, pend := s.pend.set t false, E := s.E } : Sim) = c := by
      rw [← hc]
      unfold Sim.comp
      rw [lgetD hbp, ht, lgetD hxr]
      rfl
    rw [hce] at hF
    refine wpC_more (hkT _ _ c u _ (by rfl) (by rfl) (by rfl) (by rfl) (by rfl) (by rfl) (by rfl) (by rw [← hce]; exact hl3) (by rw [← hce]; exact hr3) (by rw [← hce]; simp [hp3]) (by rw [← hce]; first | omega | (show xr + 1 < 100; omega)) (by rw [← hce]; exact hl98) (by rw [← hce]; exact hE) hF (fun u' w' hF => ⟨by rw [hc], u', ?_⟩)) (Nat.le_refl _)
    unfold Sim.step
    rw [hc]
    exact hF
  · intro ht
    co_apply wpC_skip (TT Sh)
    co_then
    obtain ⟨c, hc⟩ : ∃ c, s.comp t = c := ⟨_, rfl⟩
    have hce : s = c := by
      rw [← hc]
      unfold Sim.comp
      rw [lgetD hbp, ht]
      rfl
    rw [hce] at hF
    refine wpC_more (hkT _ _ c u _ (by rfl) (by rfl) (by rfl) (by rfl) (by rfl) (by rfl) (by rfl) (by rw [← hce]; exact hl3) (by rw [← hce]; exact hr3) (by rw [← hce]; simp [hp3]) (by rw [← hce]; first | omega | (show xr + 1 < 100; omega)) (by rw [← hce]; exact hl98) (by rw [← hce]; exact hE) hF (fun u' w' hF => ⟨by rw [hc], u', ?_⟩)) (Nat.le_refl _)
    unfold Sim.step
    rw [hc]
    exact hF
end

/-! ### CwOwn -/
section
set_option linter.unusedSimpArgs false
open Go Go.Conc Go.RowKit Go.ConcR.Gen Cw

theorem own_vrow {w : World} {base : Nat} {e : TypeId} {r : Value} {n : Nat} {xs : List Value} (h : w.ownsRow base e 1 r n xs) : ∃ a c, r = .slice a xs.length c ∧ VRow w a xs ∧ xs.length = n := by
  have hl : xs.length = n := by have := h.1; omega
  rcases h.2 with ⟨rfl, hn⟩ | ⟨g, cap, cur, rfl, _, hg, hc1, _, hc2, ht⟩
  · have : xs = [] := List.eq_nil_of_length_eq_zero (by omega)
    subst this
    exact ⟨none, 0, rfl, .inl rfl, hl⟩
  · refine ⟨some ⟨g, 0, none⟩, cap, by rw [hl], .inr ⟨g, 0, rfl, fun k u hk => ?_⟩, hl⟩
    rw [← ht] at hk
    have hlt := (List.getElem?_eq_some_iff.1 hk).1
    rw [List.getElem?_take] at hk
    split at hk
    · simp only [Nat.zero_add, World.cell?, hg]
      simpa using hk
    · cases hk
theorem evCells_at : ∀ (E : List (Int × ByteArray)) (k : Nat) (x : Int × ByteArray), E[k]? = some x → (evCells E)[k * 2]? = some (.int .i64 x.1) ∧ (evCells E)[k * 2 + 1]? = some (.string x.2)
  | [], k, x, h => by simp at h
  | (i, s) :: r, 0, x, h => by
    simp at h
    subst h
    simp [evCells]
  | (i, s) :: r, k + 1, x, h => by
    have := evCells_at r k x (by simpa using h)
    rw [show (k + 1) * 2 = k * 2 + 1 + 1 by omega]
    simpa [evCells] using this
theorem evCells_len : ∀ (E : List (Int × ByteArray)), (evCells E).length = E.length * 2
  | [] => rfl
  | (i, s) :: r => by simp [evCells, evCells_len r]; omega
theorem own_evrow {w : World} {base : Nat} {e : TypeId} {r : Value} {E : List (Int × ByteArray)} (h : w.ownsRow base e 2 r E.length (evCells E)) : ∃ a c, r = .slice a E.length c ∧ EvRow w a E := by
  rcases h.2 with ⟨rfl, hn⟩ | ⟨g, cap, cur, rfl, _, hg, hc1, _, hc2, ht⟩
  · have : E = [] := List.eq_nil_of_length_eq_zero hn
    subst this
    exact ⟨none, 0, rfl, .inl rfl⟩
  · refine ⟨some ⟨g, 0, none⟩, cap, rfl, .inr ⟨g, 0, rfl, fun k x hk => ?_⟩⟩
    obtain ⟨h1, h2⟩ := evCells_at E k x hk
    have key : ∀ (j : Nat) (v : Value), (evCells E)[j]? = some v → w.cell? ⟨g, j, none⟩ = some v := by
      intro j v hv
      rw [← ht, List.getElem?_take] at hv
      split at hv
      · simp only [World.cell?, hg]
        simpa using hv
      · cases hv
    rw [Nat.zero_add]
    exact ⟨key _ _ h1, key _ _ h2⟩
end

/-! ### CwAwk -/
section
set_option linter.unusedSimpArgs false
open Go Go.Conc Go.RowKit Go.ConcR.Gen Cw

noncomputable def body9 : Code := Tryd.f4.body.getD .skip
noncomputable def ops9a : Array Oper := opsOf (lf (rt body9))
noncomputable def ops9b : Array Oper := opsOf (lf (rt (rt body9)))
abbrev fAw (T : Array Value) (k : List Item) : Frame := (base 4).at ⟨T, []⟩ k
abbrev strA : ByteArray := ⟨#[97]⟩
abbrev strB : ByteArray := ⟨#[98]⟩
abbrev strC : ByteArray := ⟨#[99]⟩
theorem strInfo : ∃ i, Tryd.prog.info? 9 = some i ∧ i.zero = some (.string .empty) ∧ i.size = 1 := by
  have h : (Tryd.prog.info? 9).map (fun i => (i.zero, i.size)) = some (some (.string .empty), 1) := by kernel_rfl
  obtain ⟨i, hi, hb⟩ := Option.map_eq_some_iff.1 h
  simp at hb
  exact ⟨i, hi, hb⟩
theorem rowInfo : ∃ i, Tryd.prog.info? 45 = some i ∧ i.zero = some (.slice none 0 0) ∧ i.size = 1 := by
  have h : (Tryd.prog.info? 45).map (fun i => (i.zero, i.size)) = some (some (.slice none 0 0), 1) := by kernel_rfl
  obtain ⟨i, hi, hb⟩ := Option.map_eq_some_iff.1 h
  simp at hb
  exact ⟨i, hi, hb⟩
theorem bI2 (x y : Int) (w : World) : (Instr.buildSlice 29 2 #[(0, .int .i64 x), (1, .int .i64 y)]).run Tryd.prog w = .ok (.slice (some ⟨w.heap.size, 0, none⟩) 2 2) (w.alloc (.cells #[.int .i64 x, .int .i64 y] 3)) := by
  obtain ⟨it, hit, h1, h2, _⟩ := intInfo
  refine run_buildSlice w _ _ 2 _ _ it _ (by kernel_rfl) hit h1 (by rw [h2]; omega) (by rw [h2]; omega) ?_
  rw [h2]
  kernel_rfl
theorem bI2E (x y : Int) (w : World) (es : Array Event) : (Instr.buildSlice 29 2 #[(0, .int .i64 x), (1, .int .i64 y)]).events Tryd.prog w es = es := by
  obtain ⟨it, hit, h1, h2, _⟩ := intInfo
  simp [Instr.buildSlice, go_sem, sizeOf, typeInfo, zeroValue, hit, h1, h2]
theorem bS2 (x y : ByteArray) (w : World) : (Instr.buildSlice 45 2 #[(0, .string x), (1, .string y)]).run Tryd.prog w = .ok (.slice (some ⟨w.heap.size, 0, none⟩) 2 2) (w.alloc (.cells #[.string x, .string y] 9)) := by
  obtain ⟨it, hit, h1, h2⟩ := strInfo
  refine run_buildSlice w _ _ 2 _ _ it _ (by kernel_rfl) hit h1 (by rw [h2]; omega) (by rw [h2]; omega) ?_
  rw [h2]
  kernel_rfl
theorem bS2E (x y : ByteArray) (w : World) (es : Array Event) : (Instr.buildSlice 45 2 #[(0, .string x), (1, .string y)]).events Tryd.prog w es = es := by
  obtain ⟨it, hit, h1, h2⟩ := strInfo
  simp [Instr.buildSlice, go_sem, sizeOf, typeInfo, zeroValue, hit, h1, h2]
theorem bS1 (x : ByteArray) (w : World) : (Instr.buildSlice 45 1 #[(0, .string x)]).run Tryd.prog w = .ok (.slice (some ⟨w.heap.size, 0, none⟩) 1 1) (w.alloc (.cells #[.string x] 9)) := by
  obtain ⟨it, hit, h1, h2⟩ := strInfo
  refine run_buildSlice w _ _ 1 _ _ it _ (by kernel_rfl) hit h1 (by rw [h2]; omega) (by rw [h2]; omega) ?_
  rw [h2]
  kernel_rfl
theorem bS1E (x : ByteArray) (w : World) (es : Array Event) : (Instr.buildSlice 45 1 #[(0, .string x)]).events Tryd.prog w es = es := by
  obtain ⟨it, hit, h1, h2⟩ := strInfo
  simp [Instr.buildSlice, go_sem, sizeOf, typeInfo, zeroValue, hit, h1, h2]
theorem bL2 (a b : Option Addr) (n c n' c' : Nat) (w : World) : (Instr.buildSlice 46 2 #[(0, .slice a n c), (1, .slice b n' c')]).run Tryd.prog w = .ok (.slice (some ⟨w.heap.size, 0, none⟩) 2 2) (w.alloc (.cells #[.slice a n c, .slice b n' c'] 45)) := by
  obtain ⟨it, hit, h1, h2⟩ := rowInfo
  refine run_buildSlice w _ _ 2 _ _ it _ (by kernel_rfl) hit h1 (by rw [h2]; omega) (by rw [h2]; omega) ?_
  rw [h2]
  kernel_rfl
theorem bL2E (a b : Option Addr) (n c n' c' : Nat) (w : World) (es : Array Event) : (Instr.buildSlice 46 2 #[(0, .slice a n c), (1, .slice b n' c')]).events Tryd.prog w es = es := by
  obtain ⟨it, hit, h1, h2⟩ := rowInfo
  simp [Instr.buildSlice, go_sem, sizeOf, typeInfo, zeroValue, hit, h1, h2]
section
variable {Sh : Loc → Prop} {W : World} {mn : Bool}
abbrev KnA (W : World) (pa sa sb sl : Nat) : World → Prop := Kn W [(sl, Obj.cells #[.slice (some ⟨sa, 0, none⟩) 2 2, .slice (some ⟨sb, 0, none⟩) 1 1] 45 (0, 0)), (sb, Obj.cells #[.string strC] 9 (0, 0)), (sa, Obj.cells #[.string strA, .string strB] 9 (0, 0)), (pa, Obj.cells #[.int .i64 1, .int .i64 0] 3 (0, 0))]
set_option maxRecDepth 100000 in
set_option maxHeartbeats 2000000 in
/-- To the call of tasks. -/
theorem a_begin (cs : List Frame) (w : World) (hF : Kn W [] w) :
    Goes Tryd.prog mn (Ext Vn) (HDq (Cx0 Sh)) (fun g w => ∃ pa sa sb sl T, (T.size = 22 ∧ T[4]? = some (.slice (some ⟨pa, 0, none⟩) 2 2) ∧ T[7]? = some (.slice (some ⟨sl, 0, none⟩) 2 2)) ∧ g = G (fAw T (.inRegion ops9a [4, 5, 6, 7, 8, 9, 10] :: .code (rt (rt body9)) :: [])) cs ∧ KnA W pa sa sb sl w) 20
      (G (fAw #[undef, undef, undef, undef, undef, undef, undef, undef, undef, undef, undef, undef, undef, undef, undef, undef, undef, undef, undef, undef, undef, undef] [.code body9]) cs) w := by
  simp only [fAw, ops9a, body9, inner, rt, lf, opsOf, Tryd.f4, Option.getD_some]
  refine Goes.step rfl (fun w hr => ?_)
  replace hF := (fun h r => Kn.rl h r) hF hr
  clear hr
  rw [stepG_seq]
  simp only [goes_go]
  refine ⟨hdq_idle _ _, ?_⟩
  refine Goes.step rfl (fun w hr => ?_)
  replace hF := (fun h r => Kn.rl h r) hF hr
  clear hr
  rw [stepG_region]
  simp only [goes_go, List.size_toArray, List.length_cons, List.length_nil, Nat.reduceAdd, Nat.zero_add, List.range, List.range.loop]
  refine ⟨hdq_idle _ _, ?_⟩
  refine Goes.step rfl (fun w hr => ?_)
  replace hF := (fun h r => Kn.rl h r) hF hr
  clear hr
  refine goes_oper_k rfl rfl (by k_ne) (fun K hK => ?_)
  go_simp
  refine hK _ _ ⟨?_, ?_⟩
  · rw [listed_nil (by simp [go_sem])]; exact hdq_idle _ _
  clear hK K
  try walk_nrm
  refine Goes.step rfl (fun w hr => ?_)
  replace hF := (fun h r => Kn.rl h r) hF hr
  clear hr
  rw [stepG_region_end]
  simp only [goes_go]
  refine ⟨hdq_idle _ _, ?_⟩
  refine Goes.step rfl (fun w hr => ?_)
  replace hF := (fun h r => Kn.rl h r) hF hr
  clear hr
  rw [stepG_seq]
  simp only [goes_go]
  refine ⟨hdq_idle _ _, ?_⟩
  refine Goes.step rfl (fun w hr => ?_)
  replace hF := (fun h r => Kn.rl h r) hF hr
  clear hr
  rw [stepG_region]
  simp only [goes_go, List.size_toArray, List.length_cons, List.length_nil, Nat.reduceAdd, Nat.zero_add, List.range, List.range.loop]
  refine ⟨hdq_idle _ _, ?_⟩
  refine Goes.step rfl (fun w hr => ?_)
  replace hF := (fun h r => Kn.rl h r) hF hr
  clear hr
  have hm := bI2 1 0
  have hm' := bI2E 1 0
  refine goes_oper_k rfl rfl (by k_ne) (fun K hK => ?_)
  go_simp
  refine hK _ _ ⟨?_, ?_⟩
  · rw [listed_nil (by simp [go_sem, *])]
    exact al_hd (by simp)
  clear hK K
  try walk_nrm
  clear hm hm'
  replace hF := hF.alloc (Obj.cells #[.int .i64 1, .int .i64 0] 3 (0, 0))
  generalize w.heap.size = pa at *
  generalize w.alloc (Obj.cells #[.int .i64 1, .int .i64 0] 3 (0, 0)) = w at *
  refine Goes.step rfl (fun w hr => ?_)
  replace hF := (fun h r => Kn.rl h r) hF hr
  clear hr
  have hm := bS2 strA strB
  have hm' := bS2E strA strB
  refine goes_oper_k rfl rfl (by k_ne) (fun K hK => ?_)
  go_simp
  refine hK _ _ ⟨?_, ?_⟩
  · rw [listed_nil (by simp [go_sem, *])]
    exact al_hd (by simp)
  clear hK K
  try walk_nrm
  clear hm hm'
  replace hF := hF.alloc (Obj.cells #[.string strA, .string strB] 9 (0, 0))
  generalize w.heap.size = sa at *
  generalize w.alloc (Obj.cells #[.string strA, .string strB] 9 (0, 0)) = w at *
  refine Goes.step rfl (fun w hr => ?_)
  replace hF := (fun h r => Kn.rl h r) hF hr
  clear hr
  have hm := bS1 strC
  have hm' := bS1E strC
  refine goes_oper_k rfl rfl (by k_ne) (fun K hK => ?_)
  go_simp
  refine hK _ _ ⟨?_, ?_⟩
  · rw [listed_nil (by simp [go_sem, *])]
    exact al_hd (by simp)
  clear hK K
  try walk_nrm
  clear hm hm'
  replace hF := hF.alloc (Obj.cells #[.string strC] 9 (0, 0))
  generalize w.heap.size = sb at *
  generalize w.alloc (Obj.cells #[.string strC] 9 (0, 0)) = w at *
  refine Goes.step rfl (fun w hr => ?_)
  replace hF := (fun h r => Kn.rl h r) hF hr
  clear hr
  have hm := bL2 (some ⟨sa, 0, none⟩) (some ⟨sb, 0, none⟩) 2 2 1 1
  have hm' := bL2E (some ⟨sa, 0, none⟩) (some ⟨sb, 0, none⟩) 2 2 1 1
  refine goes_oper_k rfl rfl (by k_ne) (fun K hK => ?_)
  go_simp
  refine hK _ _ ⟨?_, ?_⟩
  · rw [listed_nil (by simp [go_sem, *])]
    exact al_hd (by simp)
  clear hK K
  try walk_nrm
  clear hm hm'
  replace hF := hF.alloc (Obj.cells #[.slice (some ⟨sa, 0, none⟩) 2 2, .slice (some ⟨sb, 0, none⟩) 1 1] 45 (0, 0))
  generalize w.heap.size = sl at *
  generalize w.alloc (Obj.cells #[.slice (some ⟨sa, 0, none⟩) 2 2, .slice (some ⟨sb, 0, none⟩) 1 1] 45 (0, 0)) = w at *
  refine Goes.stop (fun w hr => ⟨pa, sa, sb, sl, _, ⟨?_, ?_, ?_⟩, rfl, hF.rl hr⟩) <;> rfl
end
end
end Go.Proofs.YtggfcdhkgldbfaaDoor
