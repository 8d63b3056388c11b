/-
  PARTS of a claim, merged by segs.py: NwC0.
-/
import Derived.Test.YtggfcdhkgldbfaaN25
namespace Go.Proofs.Ytggfcdhkgldbfaa
set_option linter.unusedSimpArgs false
set_option linter.unusedVariables false

/-! ### NwC0 -/
section
set_option linter.unusedSimpArgs false
open Go Go.Conc Go.RowKit Go.ConcR.Gen Cw

/-- The groups of earlier calls hold nothing but their two counts. -/
def ShOk (Sh : Loc → Prop) (W : World) : Prop := ∀ a, Sh (.cell a) → ∃ st sm, Go.ConcR.WgAt link.tWg a.block W st sm
def notWg : Value → Bool
  | .int .u64 _ => false
  | .int .u32 _ => false
  | _ => true
theorem sh_no {Sh : Loc → Prop} {W : World} (h : ShOk Sh W) {a : Addr} {v : Value} (hc : W.cell? a = some v) (hv : notWg v = true) : ¬ Sh (.cell a) := by
  intro hs
  obtain ⟨st, sm, hw⟩ := h a hs
  unfold Go.ConcR.WgAt Go.ConcR.wgBlock at hw
  unfold World.cell? at hc
  rw [hw] at hc
  obtain ⟨b, o, p⟩ := a
  rcases o with _ | _ | o
  · cases p <;> simp at hc; subst hc; cases hv
  · cases p <;> simp at hc; subst hc; cases hv
  · cases p <;> simp at hc
section
variable {Sh : Loc → Prop} {W w : World} {main : Bool}
abbrev TT (Sh : Loc → Prop) : Terms (Ext Vn) (HDq (Cx0 Sh)) := hdq_terms (Cx0 Sh) Vn
theorem cell_ext {a : Addr} {v : Value} (h : Ext Vn W w) (hc : W.cell? a = some v) : w.cell? a = some v := by
  rw [cell_of_block (h.same _ (block_of_cell hc) id)]; exact hc
/-- A read of what is old. -/
theorem rd_old (hS : ShOk Sh W) (h : Ext Vn W w) {a : Addr} {v : Value} (hc : W.cell? a = some v) (hv : notWg v = true) {es : Array Event} (hes : ∀ e ∈ es, e = ⟨.cell a, false, false⟩) : HDq (Cx0 Sh) w w es :=
  hdq_read fun e he => ⟨a, hes e he, block_of_cell (cell_ext h hc), sh_no hS hc hv⟩
theorem draw_ext (w : World) : Ext Vn w { w with drawn := w.drawn + 1 } := Ext.at Vn w _
theorem lets0 (Sh : Loc → Prop) : LetsDraw (HDq (Cx0 Sh)) := fun w => hdq_draw (Cx0 Sh) w
end

/-- The world that a call starts from, in company: what is fixed lies in it; the groups hold nothing but their two counts. -/
structure Wd (X : Cx) (V : Nat → Prop) (W : World) : Prop where
  fl : Floor X V W.heap.size
  sh : ∀ (a : Addr) v, W.cell? a = some v → notWg v = true → ∀ a' : Addr, a'.block = a.block → ¬ X.Sh (.cell a')
  nv : ∀ a v, W.cell? a = some v → notWg v = true → ¬ V a.block
  bx : ∀ cs ty, X.Bx cs ty → BxW cs ty
section
variable {X : Cx} {V : Nat → Prop} {W w : World}
theorem Wd.own (h : Wd X V W) {b : Nat} (hb : W.heap.size ≤ b) : ¬ V b := (h.fl.ok hb).nv
theorem wd_of {Sh : Loc → Prop} (h : ShOk Sh W) : Wd (Cx0 Sh) Vn W :=
  ⟨⟨fun a h => h.elim, fun c h => h.elim, fun _ o => o.elim, fun a ha => by obtain ⟨_, _, hw⟩ := h a ha; exact (Array.getElem?_eq_some_iff.1 hw).1, fun b h => h.elim, fun b h => h.elim⟩, fun a v hc hv a' ha' hs => by
    obtain ⟨st, sm, hw⟩ := h a' hs
    refine sh_no (Sh := fun l => l = .cell a) (W := W) (fun x hx => ⟨st, sm, by rw [Loc.cell.inj hx, ← ha']; exact hw⟩) hc hv rfl, fun a v _ _ h => h.elim, fun _ _ h => h.elim⟩
abbrev TTg (X : Cx) (V : Nat → Prop) : Terms (Ext V) (HDq X) := hdq_terms X V
theorem cell_extg (hS : Wd X V W) (h : Ext V W w) {a : Addr} {v : Value} (hc : W.cell? a = some v) (hv : notWg v = true) : w.cell? a = some v := by
  rw [cell_of_block (h.same _ (block_of_cell hc) (hS.nv a v hc hv))]; exact hc
/-- A read of what is old. -/
theorem rd_oldg (hS : Wd X V W) (h : Ext V W w) {a : Addr} {v : Value} (hc : W.cell? a = some v) (hv : notWg v = true) {es : Array Event} (hes : ∀ e ∈ es, e = ⟨.cell a, false, false⟩) : HDq X w w es :=
  hdq_read fun e he => ⟨a, hes e he, block_of_cell (cell_extg hS h hc hv), hS.sh a v hc hv a rfl⟩
/-- The world later on is such a one too. -/
theorem Wd.ext (hS : Wd X V W) (h : Ext V W w) (hlow : ∀ a v, w.cell? a = some v → notWg v = true → a.block < W.heap.size → ¬ V a.block) : Wd X V w := by
  refine ⟨⟨fun a ha => Nat.lt_of_lt_of_le (hS.fl.st a ha) h.size, fun a ha => Nat.lt_of_lt_of_le (hS.fl.ch a ha) h.size, fun b o => Nat.lt_of_lt_of_le (hS.fl.wg b o) h.size, fun a ha => Nat.lt_of_lt_of_le (hS.fl.sh a ha) h.size, fun b hb => Nat.lt_of_lt_of_le (hS.fl.v b hb) h.size, fun b hb => Nat.lt_of_lt_of_le (hS.fl.ex b hb) h.size⟩, fun a v hc hv a' ha' hs => ?_, fun a v hc hv hV => ?_, hS.bx⟩
  · have hlt := hS.fl.sh a' hs
    rw [ha'] at hlt
    have hnv := hlow a v hc hv hlt
    exact hS.sh a v (by rw [← cell_of_block (h.same _ hlt hnv)]; exact hc) hv a' ha' hs
  · exact hlow a v hc hv (hS.fl.v _ hV) hV
end

/-- A list of notes in memory; lists of notes. -/
def StrRow (w : World) (v : Value) (S : List ByteArray) : Prop := ∃ a cap, v = .slice a S.length cap ∧ Nts a S w
def StrRows (w : World) (v : Value) (L : List (List ByteArray)) : Prop := ∃ a cap, v = .slice a L.length cap ∧ (L = [] ∨ ∃ p o, a = some ⟨p, o, none⟩ ∧ ∀ (k : Nat) (S : List ByteArray), L[k]? = some S → ∃ u, w.cell? ⟨p, o + k, none⟩ = some u ∧ StrRow w u S)
/-- The number in a slot. -/
def slotN (a : Act) (k : Nat) : Nat := match a.tmps[k]? with
  | some (.int _ i) => i.toNat
  | _ => 0
theorem wpC_absurd {P : Program} {main : Bool} {R : World → World → Prop} {D : World → World → Array Event → Prop} {fn : FuncId} {c : Code} {Q : Exit → Act → World → Prop} {a : Act} {w : World} (h : False) : c.wpC P main R D fn 0 Q a w := h.elim
theorem arr25 (T : Array Value) (h : T.size = 25) : ∃ v0 v1 v2 v3 v4 v5 v6 v7 v8 v9 v10 v11 v12 v13 v14 v15 v16 v17 v18 v19 v20 v21 v22 v23 v24, T = #[v0, v1, v2, v3, v4, v5, v6, v7, v8, v9, v10, v11, v12, v13, v14, v15, v16, v17, v18, v19, v20, v21, v22, v23, v24] := by
  have hl : T.toList.length = 25 := by simpa using h
  obtain ⟨l⟩ := T
  simp only at hl
  obtain _ | ⟨v0, l⟩ := l
  · simp at hl
  obtain _ | ⟨v1, l⟩ := l
  · simp at hl
  obtain _ | ⟨v2, l⟩ := l
  · simp at hl
  obtain _ | ⟨v3, l⟩ := l
  · simp at hl
  obtain _ | ⟨v4, l⟩ := l
  · simp at hl
  obtain _ | ⟨v5, l⟩ := l
  · simp at hl
  obtain _ | ⟨v6, l⟩ := l
  · simp at hl
  obtain _ | ⟨v7, l⟩ := l
  · simp at hl
  obtain _ | ⟨v8, l⟩ := l
  · simp at hl
  obtain _ | ⟨v9, l⟩ := l
  · simp at hl
  obtain _ | ⟨v10, l⟩ := l
  · simp at hl
  obtain _ | ⟨v11, l⟩ := l
  · simp at hl
  obtain _ | ⟨v12, l⟩ := l
  · simp at hl
  obtain _ | ⟨v13, l⟩ := l
  · simp at hl
  obtain _ | ⟨v14, l⟩ := l
  · simp at hl
  obtain _ | ⟨v15, l⟩ := l
  · simp at hl
  obtain _ | ⟨v16, l⟩ := l
  · simp at hl
  obtain _ | ⟨v17, l⟩ := l
  · simp at hl
  obtain _ | ⟨v18, l⟩ := l
  · simp at hl
  obtain _ | ⟨v19, l⟩ := l
  · simp at hl
  obtain _ | ⟨v20, l⟩ := l
  · simp at hl
  obtain _ | ⟨v21, l⟩ := l
  · simp at hl
  obtain _ | ⟨v22, l⟩ := l
  · simp at hl
  obtain _ | ⟨v23, l⟩ := l
  · simp at hl
  obtain _ | ⟨v24, l⟩ := l
  · simp at hl
  obtain _ | ⟨x, l⟩ := l
  · exact ⟨_, _, _, _, _, _, _, _, _, _, _, _, _, _, _, _, _, _, _, _, _, _, _, _, _, rfl⟩
  · simp only [List.length_cons] at hl
    omega
theorem arr19 (T : Array Value) (h : T.size = 19) : ∃ v0 v1 v2 v3 v4 v5 v6 v7 v8 v9 v10 v11 v12 v13 v14 v15 v16 v17 v18, T = #[v0, v1, v2, v3, v4, v5, v6, v7, v8, v9, v10, v11, v12, v13, v14, v15, v16, v17, v18] := by
  have hl : T.toList.length = 19 := by simpa using h
  obtain ⟨l⟩ := T
  simp only at hl
  obtain _ | ⟨v0, l⟩ := l
  · simp at hl
  obtain _ | ⟨v1, l⟩ := l
  · simp at hl
  obtain _ | ⟨v2, l⟩ := l
  · simp at hl
  obtain _ | ⟨v3, l⟩ := l
  · simp at hl
  obtain _ | ⟨v4, l⟩ := l
  · simp at hl
  obtain _ | ⟨v5, l⟩ := l
  · simp at hl
  obtain _ | ⟨v6, l⟩ := l
  · simp at hl
  obtain _ | ⟨v7, l⟩ := l
  · simp at hl
  obtain _ | ⟨v8, l⟩ := l
  · simp at hl
  obtain _ | ⟨v9, l⟩ := l
  · simp at hl
  obtain _ | ⟨v10, l⟩ := l
  · simp at hl
  obtain _ | ⟨v11, l⟩ := l
  · simp at hl
  obtain _ | ⟨v12, l⟩ := l
  · simp at hl
  obtain _ | ⟨v13, l⟩ := l
  · simp at hl
  obtain _ | ⟨v14, l⟩ := l
  · simp at hl
  obtain _ | ⟨v15, l⟩ := l
  · simp at hl
  obtain _ | ⟨v16, l⟩ := l
  · simp at hl
  obtain _ | ⟨v17, l⟩ := l
  · simp at hl
  obtain _ | ⟨v18, l⟩ := l
  · simp at hl
  obtain _ | ⟨x, l⟩ := l
  · exact ⟨_, _, _, _, _, _, _, _, _, _, _, _, _, _, _, _, _, _, _, rfl⟩
  · simp only [List.length_cons] at hl
    omega
theorem arr26 (T : Array Value) (h : T.size = 26) : ∃ v0 v1 v2 v3 v4 v5 v6 v7 v8 v9 v10 v11 v12 v13 v14 v15 v16 v17 v18 v19 v20 v21 v22 v23 v24 v25, T = #[v0, v1, v2, v3, v4, v5, v6, v7, v8, v9, v10, v11, v12, v13, v14, v15, v16, v17, v18, v19, v20, v21, v22, v23, v24, v25] := by
  have hl : T.toList.length = 26 := by simpa using h
  obtain ⟨l⟩ := T
  simp only at hl
  obtain _ | ⟨v0, l⟩ := l
  · simp at hl
  obtain _ | ⟨v1, l⟩ := l
  · simp at hl
  obtain _ | ⟨v2, l⟩ := l
  · simp at hl
  obtain _ | ⟨v3, l⟩ := l
  · simp at hl
  obtain _ | ⟨v4, l⟩ := l
  · simp at hl
  obtain _ | ⟨v5, l⟩ := l
  · simp at hl
  obtain _ | ⟨v6, l⟩ := l
  · simp at hl
  obtain _ | ⟨v7, l⟩ := l
  · simp at hl
  obtain _ | ⟨v8, l⟩ := l
  · simp at hl
  obtain _ | ⟨v9, l⟩ := l
  · simp at hl
  obtain _ | ⟨v10, l⟩ := l
  · simp at hl
  obtain _ | ⟨v11, l⟩ := l
  · simp at hl
  obtain _ | ⟨v12, l⟩ := l
  · simp at hl
  obtain _ | ⟨v13, l⟩ := l
  · simp at hl
  obtain _ | ⟨v14, l⟩ := l
  · simp at hl
  obtain _ | ⟨v15, l⟩ := l
  · simp at hl
  obtain _ | ⟨v16, l⟩ := l
  · simp at hl
  obtain _ | ⟨v17, l⟩ := l
  · simp at hl
  obtain _ | ⟨v18, l⟩ := l
  · simp at hl
  obtain _ | ⟨v19, l⟩ := l
  · simp at hl
  obtain _ | ⟨v20, l⟩ := l
  · simp at hl
  obtain _ | ⟨v21, l⟩ := l
  · simp at hl
  obtain _ | ⟨v22, l⟩ := l
  · simp at hl
  obtain _ | ⟨v23, l⟩ := l
  · simp at hl
  obtain _ | ⟨v24, l⟩ := l
  · simp at hl
  obtain _ | ⟨v25, l⟩ := l
  · simp at hl
  obtain _ | ⟨x, l⟩ := l
  · exact ⟨_, _, _, _, _, _, _, _, _, _, _, _, _, _, _, _, _, _, _, _, _, _, _, _, _, _, rfl⟩
  · simp only [List.length_cons] at hl
    omega
theorem arr92 (T : Array Value) (h : T.size = 92) : ∃ v0 v1 v2 v3 v4 v5 v6 v7 v8 v9 v10 v11 v12 v13 v14 v15 v16 v17 v18 v19 v20 v21 v22 v23 v24 v25 v26 v27 v28 v29 v30 v31 v32 v33 v34 v35 v36 v37 v38 v39 v40 v41 v42 v43 v44 v45 v46 v47 v48 v49 v50 v51 v52 v53 v54 v55 v56 v57 v58 v59 v60 v61 v62 v63 v64 v65 v66 v67 v68 v69 v70 v71 v72 v73 v74 v75 v76 v77 v78 v79 v80 v81 v82 v83 v84 v85 v86 v87 v88 v89 v90 v91, T = #[v0, v1, v2, v3, v4, v5, v6, v7, v8, v9, v10, v11, v12, v13, v14, v15, v16, v17, v18, v19, v20, v21, v22, v23, v24, v25, v26, v27, v28, v29, v30, v31, v32, v33, v34, v35, v36, v37, v38, v39, v40, v41, v42, v43, v44, v45, v46, v47, v48, v49, v50, v51, v52, v53, v54, v55, v56, v57, v58, v59, v60, v61, v62, v63, v64, v65, v66, v67, v68, v69, v70, v71, v72, v73, v74, v75, v76, v77, v78, v79, v80, v81, v82, v83, v84, v85, v86, v87, v88, v89, v90, v91] := by
  have hl : T.toList.length = 92 := by simpa using h
  obtain ⟨l⟩ := T
  simp only at hl
  obtain _ | ⟨v0, l⟩ := l
  · simp at hl
  obtain _ | ⟨v1, l⟩ := l
  · simp at hl
  obtain _ | ⟨v2, l⟩ := l
  · simp at hl
  obtain _ | ⟨v3, l⟩ := l
  · simp at hl
  obtain _ | ⟨v4, l⟩ := l
  · simp at hl
  obtain _ | ⟨v5, l⟩ := l
  · simp at hl
  obtain _ | ⟨v6, l⟩ := l
  · simp at hl
  obtain _ | ⟨v7, l⟩ := l
  · simp at hl
  obtain _ | ⟨v8, l⟩ := l
  · simp at hl
  obtain _ | ⟨v9, l⟩ := l
  · simp at hl
  obtain _ | ⟨v10, l⟩ := l
  · simp at hl
  obtain _ | ⟨v11, l⟩ := l
  · simp at hl
  obtain _ | ⟨v12, l⟩ := l
  · simp at hl
  obtain _ | ⟨v13, l⟩ := l
  · simp at hl
  obtain _ | ⟨v14, l⟩ := l
  · simp at hl
  obtain _ | ⟨v15, l⟩ := l
  · simp at hl
  obtain _ | ⟨v16, l⟩ := l
  · simp at hl
  obtain _ | ⟨v17, l⟩ := l
  · simp at hl
  obtain _ | ⟨v18, l⟩ := l
  · simp at hl
  obtain _ | ⟨v19, l⟩ := l
  · simp at hl
  obtain _ | ⟨v20, l⟩ := l
  · simp at hl
  obtain _ | ⟨v21, l⟩ := l
  · simp at hl
  obtain _ | ⟨v22, l⟩ := l
  · simp at hl
  obtain _ | ⟨v23, l⟩ := l
  · simp at hl
  obtain _ | ⟨v24, l⟩ := l
  · simp at hl
  obtain _ | ⟨v25, l⟩ := l
  · simp at hl
  obtain _ | ⟨v26, l⟩ := l
  · simp at hl
  obtain _ | ⟨v27, l⟩ := l
  · simp at hl
  obtain _ | ⟨v28, l⟩ := l
  · simp at hl
  obtain _ | ⟨v29, l⟩ := l
  · simp at hl
  obtain _ | ⟨v30, l⟩ := l
  · simp at hl
  obtain _ | ⟨v31, l⟩ := l
  · simp at hl
  obtain _ | ⟨v32, l⟩ := l
  · simp at hl
  obtain _ | ⟨v33, l⟩ := l
  · simp at hl
  obtain _ | ⟨v34, l⟩ := l
  · simp at hl
  obtain _ | ⟨v35, l⟩ := l
  · simp at hl
  obtain _ | ⟨v36, l⟩ := l
  · simp at hl
  obtain _ | ⟨v37, l⟩ := l
  · simp at hl
  obtain _ | ⟨v38, l⟩ := l
  · simp at hl
  obtain _ | ⟨v39, l⟩ := l
  · simp at hl
  obtain _ | ⟨v40, l⟩ := l
  · simp at hl
  obtain _ | ⟨v41, l⟩ := l
  · simp at hl
  obtain _ | ⟨v42, l⟩ := l
  · simp at hl
  obtain _ | ⟨v43, l⟩ := l
  · simp at hl
  obtain _ | ⟨v44, l⟩ := l
  · simp at hl
  obtain _ | ⟨v45, l⟩ := l
  · simp at hl
  obtain _ | ⟨v46, l⟩ := l
  · simp at hl
  obtain _ | ⟨v47, l⟩ := l
  · simp at hl
  obtain _ | ⟨v48, l⟩ := l
  · simp at hl
  obtain _ | ⟨v49, l⟩ := l
  · simp at hl
  obtain _ | ⟨v50, l⟩ := l
  · simp at hl
  obtain _ | ⟨v51, l⟩ := l
  · simp at hl
  obtain _ | ⟨v52, l⟩ := l
  · simp at hl
  obtain _ | ⟨v53, l⟩ := l
  · simp at hl
  obtain _ | ⟨v54, l⟩ := l
  · simp at hl
  obtain _ | ⟨v55, l⟩ := l
  · simp at hl
  obtain _ | ⟨v56, l⟩ := l
  · simp at hl
  obtain _ | ⟨v57, l⟩ := l
  · simp at hl
  obtain _ | ⟨v58, l⟩ := l
  · simp at hl
  obtain _ | ⟨v59, l⟩ := l
  · simp at hl
  obtain _ | ⟨v60, l⟩ := l
  · simp at hl
  obtain _ | ⟨v61, l⟩ := l
  · simp at hl
  obtain _ | ⟨v62, l⟩ := l
  · simp at hl
  obtain _ | ⟨v63, l⟩ := l
  · simp at hl
  obtain _ | ⟨v64, l⟩ := l
  · simp at hl
  obtain _ | ⟨v65, l⟩ := l
  · simp at hl
  obtain _ | ⟨v66, l⟩ := l
  · simp at hl
  obtain _ | ⟨v67, l⟩ := l
  · simp at hl
  obtain _ | ⟨v68, l⟩ := l
  · simp at hl
  obtain _ | ⟨v69, l⟩ := l
  · simp at hl
  obtain _ | ⟨v70, l⟩ := l
  · simp at hl
  obtain _ | ⟨v71, l⟩ := l
  · simp at hl
  obtain _ | ⟨v72, l⟩ := l
  · simp at hl
  obtain _ | ⟨v73, l⟩ := l
  · simp at hl
  obtain _ | ⟨v74, l⟩ := l
  · simp at hl
  obtain _ | ⟨v75, l⟩ := l
  · simp at hl
  obtain _ | ⟨v76, l⟩ := l
  · simp at hl
  obtain _ | ⟨v77, l⟩ := l
  · simp at hl
  obtain _ | ⟨v78, l⟩ := l
  · simp at hl
  obtain _ | ⟨v79, l⟩ := l
  · simp at hl
  obtain _ | ⟨v80, l⟩ := l
  · simp at hl
  obtain _ | ⟨v81, l⟩ := l
  · simp at hl
  obtain _ | ⟨v82, l⟩ := l
  · simp at hl
  obtain _ | ⟨v83, l⟩ := l
  · simp at hl
  obtain _ | ⟨v84, l⟩ := l
  · simp at hl
  obtain _ | ⟨v85, l⟩ := l
  · simp at hl
  obtain _ | ⟨v86, l⟩ := l
  · simp at hl
  obtain _ | ⟨v87, l⟩ := l
  · simp at hl
  obtain _ | ⟨v88, l⟩ := l
  · simp at hl
  obtain _ | ⟨v89, l⟩ := l
  · simp at hl
  obtain _ | ⟨v90, l⟩ := l
  · simp at hl
  obtain _ | ⟨v91, l⟩ := l
  · simp at hl
  obtain _ | ⟨x, l⟩ := l
  · exact ⟨_, _, _, _, _, _, _, _, _, _, _, _, _, _, _, _, _, _, _, _, _, _, _, _, _, _, _, _, _, _, _, _, _, _, _, _, _, _, _, _, _, _, _, _, _, _, _, _, _, _, _, _, _, _, _, _, _, _, _, _, _, _, _, _, _, _, _, _, _, _, _, _, _, _, _, _, _, _, _, _, _, _, _, _, _, _, _, _, _, _, _, _, rfl⟩
  · simp only [List.length_cons] at hl
    omega
theorem arr9 (T : Array Value) (h : T.size = 9) : ∃ v0 v1 v2 v3 v4 v5 v6 v7 v8, T = #[v0, v1, v2, v3, v4, v5, v6, v7, v8] := by
  have hl : T.toList.length = 9 := by simpa using h
  obtain ⟨l⟩ := T
  simp only at hl
  obtain _ | ⟨v0, l⟩ := l
  · simp at hl
  obtain _ | ⟨v1, l⟩ := l
  · simp at hl
  obtain _ | ⟨v2, l⟩ := l
  · simp at hl
  obtain _ | ⟨v3, l⟩ := l
  · simp at hl
  obtain _ | ⟨v4, l⟩ := l
  · simp at hl
  obtain _ | ⟨v5, l⟩ := l
  · simp at hl
  obtain _ | ⟨v6, l⟩ := l
  · simp at hl
  obtain _ | ⟨v7, l⟩ := l
  · simp at hl
  obtain _ | ⟨v8, l⟩ := l
  · simp at hl
  obtain _ | ⟨x, l⟩ := l
  · exact ⟨_, _, _, _, _, _, _, _, _, rfl⟩
  · simp only [List.length_cons] at hl
    omega
theorem arr5 (T : Array Value) (h : T.size = 5) : ∃ v0 v1 v2 v3 v4, T = #[v0, v1, v2, v3, v4] := by
  have hl : T.toList.length = 5 := by simpa using h
  obtain ⟨l⟩ := T
  simp only at hl
  obtain _ | ⟨v0, l⟩ := l
  · simp at hl
  obtain _ | ⟨v1, l⟩ := l
  · simp at hl
  obtain _ | ⟨v2, l⟩ := l
  · simp at hl
  obtain _ | ⟨v3, l⟩ := l
  · simp at hl
  obtain _ | ⟨v4, l⟩ := l
  · simp at hl
  obtain _ | ⟨x, l⟩ := l
  · exact ⟨_, _, _, _, _, rfl⟩
  · simp only [List.length_cons] at hl
    omega
theorem arr12 (T : Array Value) (h : T.size = 12) : ∃ v0 v1 v2 v3 v4 v5 v6 v7 v8 v9 v10 v11, T = #[v0, v1, v2, v3, v4, v5, v6, v7, v8, v9, v10, v11] := by
  have hl : T.toList.length = 12 := by simpa using h
  obtain ⟨l⟩ := T
  simp only at hl
  obtain _ | ⟨v0, l⟩ := l
  · simp at hl
  obtain _ | ⟨v1, l⟩ := l
  · simp at hl
  obtain _ | ⟨v2, l⟩ := l
  · simp at hl
  obtain _ | ⟨v3, l⟩ := l
  · simp at hl
  obtain _ | ⟨v4, l⟩ := l
  · simp at hl
  obtain _ | ⟨v5, l⟩ := l
  · simp at hl
  obtain _ | ⟨v6, l⟩ := l
  · simp at hl
  obtain _ | ⟨v7, l⟩ := l
  · simp at hl
  obtain _ | ⟨v8, l⟩ := l
  · simp at hl
  obtain _ | ⟨v9, l⟩ := l
  · simp at hl
  obtain _ | ⟨v10, l⟩ := l
  · simp at hl
  obtain _ | ⟨v11, l⟩ := l
  · simp at hl
  obtain _ | ⟨x, l⟩ := l
  · exact ⟨_, _, _, _, _, _, _, _, _, _, _, _, rfl⟩
  · simp only [List.length_cons] at hl
    omega
theorem arr36 (T : Array Value) (h : T.size = 36) : ∃ v0 v1 v2 v3 v4 v5 v6 v7 v8 v9 v10 v11 v12 v13 v14 v15 v16 v17 v18 v19 v20 v21 v22 v23 v24 v25 v26 v27 v28 v29 v30 v31 v32 v33 v34 v35, T = #[v0, v1, v2, v3, v4, v5, v6, v7, v8, v9, v10, v11, v12, v13, v14, v15, v16, v17, v18, v19, v20, v21, v22, v23, v24, v25, v26, v27, v28, v29, v30, v31, v32, v33, v34, v35] := by
  have hl : T.toList.length = 36 := by simpa using h
  obtain ⟨l⟩ := T
  simp only at hl
  obtain _ | ⟨v0, l⟩ := l
  · simp at hl
  obtain _ | ⟨v1, l⟩ := l
  · simp at hl
  obtain _ | ⟨v2, l⟩ := l
  · simp at hl
  obtain _ | ⟨v3, l⟩ := l
  · simp at hl
  obtain _ | ⟨v4, l⟩ := l
  · simp at hl
  obtain _ | ⟨v5, l⟩ := l
  · simp at hl
  obtain _ | ⟨v6, l⟩ := l
  · simp at hl
  obtain _ | ⟨v7, l⟩ := l
  · simp at hl
  obtain _ | ⟨v8, l⟩ := l
  · simp at hl
  obtain _ | ⟨v9, l⟩ := l
  · simp at hl
  obtain _ | ⟨v10, l⟩ := l
  · simp at hl
  obtain _ | ⟨v11, l⟩ := l
  · simp at hl
  obtain _ | ⟨v12, l⟩ := l
  · simp at hl
  obtain _ | ⟨v13, l⟩ := l
  · simp at hl
  obtain _ | ⟨v14, l⟩ := l
  · simp at hl
  obtain _ | ⟨v15, l⟩ := l
  · simp at hl
  obtain _ | ⟨v16, l⟩ := l
  · simp at hl
  obtain _ | ⟨v17, l⟩ := l
  · simp at hl
  obtain _ | ⟨v18, l⟩ := l
  · simp at hl
  obtain _ | ⟨v19, l⟩ := l
  · simp at hl
  obtain _ | ⟨v20, l⟩ := l
  · simp at hl
  obtain _ | ⟨v21, l⟩ := l
  · simp at hl
  obtain _ | ⟨v22, l⟩ := l
  · simp at hl
  obtain _ | ⟨v23, l⟩ := l
  · simp at hl
  obtain _ | ⟨v24, l⟩ := l
  · simp at hl
  obtain _ | ⟨v25, l⟩ := l
  · simp at hl
  obtain _ | ⟨v26, l⟩ := l
  · simp at hl
  obtain _ | ⟨v27, l⟩ := l
  · simp at hl
  obtain _ | ⟨v28, l⟩ := l
  · simp at hl
  obtain _ | ⟨v29, l⟩ := l
  · simp at hl
  obtain _ | ⟨v30, l⟩ := l
  · simp at hl
  obtain _ | ⟨v31, l⟩ := l
  · simp at hl
  obtain _ | ⟨v32, l⟩ := l
  · simp at hl
  obtain _ | ⟨v33, l⟩ := l
  · simp at hl
  obtain _ | ⟨v34, l⟩ := l
  · simp at hl
  obtain _ | ⟨v35, l⟩ := l
  · simp at hl
  obtain _ | ⟨x, l⟩ := l
  · exact ⟨_, _, _, _, _, _, _, _, _, _, _, _, _, _, _, _, _, _, _, _, _, _, _, _, _, _, _, _, _, _, _, _, _, _, _, _, rfl⟩
  · simp only [List.length_cons] at hl
    omega
theorem arr22 (T : Array Value) (h : T.size = 22) : ∃ v0 v1 v2 v3 v4 v5 v6 v7 v8 v9 v10 v11 v12 v13 v14 v15 v16 v17 v18 v19 v20 v21, T = #[v0, v1, v2, v3, v4, v5, v6, v7, v8, v9, v10, v11, v12, v13, v14, v15, v16, v17, v18, v19, v20, v21] := by
  have hl : T.toList.length = 22 := by simpa using h
  obtain ⟨l⟩ := T
  simp only at hl
  obtain _ | ⟨v0, l⟩ := l
  · simp at hl
  obtain _ | ⟨v1, l⟩ := l
  · simp at hl
  obtain _ | ⟨v2, l⟩ := l
  · simp at hl
  obtain _ | ⟨v3, l⟩ := l
  · simp at hl
  obtain _ | ⟨v4, l⟩ := l
  · simp at hl
  obtain _ | ⟨v5, l⟩ := l
  · simp at hl
  obtain _ | ⟨v6, l⟩ := l
  · simp at hl
  obtain _ | ⟨v7, l⟩ := l
  · simp at hl
  obtain _ | ⟨v8, l⟩ := l
  · simp at hl
  obtain _ | ⟨v9, l⟩ := l
  · simp at hl
  obtain _ | ⟨v10, l⟩ := l
  · simp at hl
  obtain _ | ⟨v11, l⟩ := l
  · simp at hl
  obtain _ | ⟨v12, l⟩ := l
  · simp at hl
  obtain _ | ⟨v13, l⟩ := l
  · simp at hl
  obtain _ | ⟨v14, l⟩ := l
  · simp at hl
  obtain _ | ⟨v15, l⟩ := l
  · simp at hl
  obtain _ | ⟨v16, l⟩ := l
  · simp at hl
  obtain _ | ⟨v17, l⟩ := l
  · simp at hl
  obtain _ | ⟨v18, l⟩ := l
  · simp at hl
  obtain _ | ⟨v19, l⟩ := l
  · simp at hl
  obtain _ | ⟨v20, l⟩ := l
  · simp at hl
  obtain _ | ⟨v21, l⟩ := l
  · simp at hl
  obtain _ | ⟨x, l⟩ := l
  · exact ⟨_, _, _, _, _, _, _, _, _, _, _, _, _, _, _, _, _, _, _, _, _, _, rfl⟩
  · simp only [List.length_cons] at hl
    omega
theorem arr159 (T : Array Value) (h : T.size = 159) : ∃ v0 v1 v2 v3 v4 v5 v6 v7 v8 v9 v10 v11 v12 v13 v14 v15 v16 v17 v18 v19 v20 v21 v22 v23 v24 v25 v26 v27 v28 v29 v30 v31 v32 v33 v34 v35 v36 v37 v38 v39 v40 v41 v42 v43 v44 v45 v46 v47 v48 v49 v50 v51 v52 v53 v54 v55 v56 v57 v58 v59 v60 v61 v62 v63 v64 v65 v66 v67 v68 v69 v70 v71 v72 v73 v74 v75 v76 v77 v78 v79 v80 v81 v82 v83 v84 v85 v86 v87 v88 v89 v90 v91 v92 v93 v94 v95 v96 v97 v98 v99 v100 v101 v102 v103 v104 v105 v106 v107 v108 v109 v110 v111 v112 v113 v114 v115 v116 v117 v118 v119 v120 v121 v122 v123 v124 v125 v126 v127 v128 v129 v130 v131 v132 v133 v134 v135 v136 v137 v138 v139 v140 v141 v142 v143 v144 v145 v146 v147 v148 v149 v150 v151 v152 v153 v154 v155 v156 v157 v158, T = #[v0, v1, v2, v3, v4, v5, v6, v7, v8, v9, v10, v11, v12, v13, v14, v15, v16, v17, v18, v19, v20, v21, v22, v23, v24, v25, v26, v27, v28, v29, v30, v31, v32, v33, v34, v35, v36, v37, v38, v39, v40, v41, v42, v43, v44, v45, v46, v47, v48, v49, v50, v51, v52, v53, v54, v55, v56, v57, v58, v59, v60, v61, v62, v63, v64, v65, v66, v67, v68, v69, v70, v71, v72, v73, v74, v75, v76, v77, v78, v79, v80, v81, v82, v83, v84, v85, v86, v87, v88, v89, v90, v91, v92, v93, v94, v95, v96, v97, v98, v99, v100, v101, v102, v103, v104, v105, v106, v107, v108, v109, v110, v111, v112, v113, v114, v115, v116, v117, v118, v119, v120, v121, v122, v123, v124, v125, v126, v127, v128, v129, v130, v131, v132, v133, v134, v135, v136, v137, v138, v139, v140, v141, v142, v143, v144, v145, v146, v147, v148, v149, v150, v151, v152, v153, v154, v155, v156, v157, v158] := by
  have hl : T.toList.length = 159 := by simpa using h
  obtain ⟨l⟩ := T
  simp only at hl
  obtain _ | ⟨v0, l⟩ := l
  · simp at hl
  obtain _ | ⟨v1, l⟩ := l
  · simp at hl
  obtain _ | ⟨v2, l⟩ := l
  · simp at hl
  obtain _ | ⟨v3, l⟩ := l
  · simp at hl
  obtain _ | ⟨v4, l⟩ := l
  · simp at hl
  obtain _ | ⟨v5, l⟩ := l
  · simp at hl
  obtain _ | ⟨v6, l⟩ := l
  · simp at hl
  obtain _ | ⟨v7, l⟩ := l
  · simp at hl
  obtain _ | ⟨v8, l⟩ := l
  · simp at hl
  obtain _ | ⟨v9, l⟩ := l
  · simp at hl
  obtain _ | ⟨v10, l⟩ := l
  · simp at hl
  obtain _ | ⟨v11, l⟩ := l
  · simp at hl
  obtain _ | ⟨v12, l⟩ := l
  · simp at hl
  obtain _ | ⟨v13, l⟩ := l
  · simp at hl
  obtain _ | ⟨v14, l⟩ := l
  · simp at hl
  obtain _ | ⟨v15, l⟩ := l
  · simp at hl
  obtain _ | ⟨v16, l⟩ := l
  · simp at hl
  obtain _ | ⟨v17, l⟩ := l
  · simp at hl
  obtain _ | ⟨v18, l⟩ := l
  · simp at hl
  obtain _ | ⟨v19, l⟩ := l
  · simp at hl
  obtain _ | ⟨v20, l⟩ := l
  · simp at hl
  obtain _ | ⟨v21, l⟩ := l
  · simp at hl
  obtain _ | ⟨v22, l⟩ := l
  · simp at hl
  obtain _ | ⟨v23, l⟩ := l
  · simp at hl
  obtain _ | ⟨v24, l⟩ := l
  · simp at hl
  obtain _ | ⟨v25, l⟩ := l
  · simp at hl
  obtain _ | ⟨v26, l⟩ := l
  · simp at hl
  obtain _ | ⟨v27, l⟩ := l
  · simp at hl
  obtain _ | ⟨v28, l⟩ := l
  · simp at hl
  obtain _ | ⟨v29, l⟩ := l
  · simp at hl
  obtain _ | ⟨v30, l⟩ := l
  · simp at hl
  obtain _ | ⟨v31, l⟩ := l
  · simp at hl
  obtain _ | ⟨v32, l⟩ := l
  · simp at hl
  obtain _ | ⟨v33, l⟩ := l
  · simp at hl
  obtain _ | ⟨v34, l⟩ := l
  · simp at hl
  obtain _ | ⟨v35, l⟩ := l
  · simp at hl
  obtain _ | ⟨v36, l⟩ := l
  · simp at hl
  obtain _ | ⟨v37, l⟩ := l
  · simp at hl
  obtain _ | ⟨v38, l⟩ := l
  · simp at hl
  obtain _ | ⟨v39, l⟩ := l
  · simp at hl
  obtain _ | ⟨v40, l⟩ := l
  · simp at hl
  obtain _ | ⟨v41, l⟩ := l
  · simp at hl
  obtain _ | ⟨v42, l⟩ := l
  · simp at hl
  obtain _ | ⟨v43, l⟩ := l
  · simp at hl
  obtain _ | ⟨v44, l⟩ := l
  · simp at hl
  obtain _ | ⟨v45, l⟩ := l
  · simp at hl
  obtain _ | ⟨v46, l⟩ := l
  · simp at hl
  obtain _ | ⟨v47, l⟩ := l
  · simp at hl
  obtain _ | ⟨v48, l⟩ := l
  · simp at hl
  obtain _ | ⟨v49, l⟩ := l
  · simp at hl
  obtain _ | ⟨v50, l⟩ := l
  · simp at hl
  obtain _ | ⟨v51, l⟩ := l
  · simp at hl
  obtain _ | ⟨v52, l⟩ := l
  · simp at hl
  obtain _ | ⟨v53, l⟩ := l
  · simp at hl
  obtain _ | ⟨v54, l⟩ := l
  · simp at hl
  obtain _ | ⟨v55, l⟩ := l
  · simp at hl
  obtain _ | ⟨v56, l⟩ := l
  · simp at hl
  obtain _ | ⟨v57, l⟩ := l
  · simp at hl
  obtain _ | ⟨v58, l⟩ := l
  · simp at hl
  obtain _ | ⟨v59, l⟩ := l
  · simp at hl
  obtain _ | ⟨v60, l⟩ := l
  · simp at hl
  obtain _ | ⟨v61, l⟩ := l
  · simp at hl
  obtain _ | ⟨v62, l⟩ := l
  · simp at hl
  obtain _ | ⟨v63, l⟩ := l
  · simp at hl
  obtain _ | ⟨v64, l⟩ := l
  · simp at hl
  obtain _ | ⟨v65, l⟩ := l
  · simp at hl
  obtain _ | ⟨v66, l⟩ := l
  · simp at hl
  obtain _ | ⟨v67, l⟩ := l
  · simp at hl
  obtain _ | ⟨v68, l⟩ := l
  · simp at hl
  obtain _ | ⟨v69, l⟩ := l
  · simp at hl
  obtain _ | ⟨v70, l⟩ := l
  · simp at hl
  obtain _ | ⟨v71, l⟩ := l
  · simp at hl
  obtain _ | ⟨v72, l⟩ := l
  · simp at hl
  obtain _ | ⟨v73, l⟩ := l
  · simp at hl
  obtain _ | ⟨v74, l⟩ := l
  · simp at hl
  obtain _ | ⟨v75, l⟩ := l
  · simp at hl
  obtain _ | ⟨v76, l⟩ := l
  · simp at hl
  obtain _ | ⟨v77, l⟩ := l
  · simp at hl
  obtain _ | ⟨v78, l⟩ := l
  · simp at hl
  obtain _ | ⟨v79, l⟩ := l
  · simp at hl
  obtain _ | ⟨v80, l⟩ := l
  · simp at hl
  obtain _ | ⟨v81, l⟩ := l
  · simp at hl
  obtain _ | ⟨v82, l⟩ := l
  · simp at hl
  obtain _ | ⟨v83, l⟩ := l
  · simp at hl
  obtain _ | ⟨v84, l⟩ := l
  · simp at hl
  obtain _ | ⟨v85, l⟩ := l
  · simp at hl
  obtain _ | ⟨v86, l⟩ := l
  · simp at hl
  obtain _ | ⟨v87, l⟩ := l
  · simp at hl
  obtain _ | ⟨v88, l⟩ := l
  · simp at hl
  obtain _ | ⟨v89, l⟩ := l
  · simp at hl
  obtain _ | ⟨v90, l⟩ := l
  · simp at hl
  obtain _ | ⟨v91, l⟩ := l
  · simp at hl
  obtain _ | ⟨v92, l⟩ := l
  · simp at hl
  obtain _ | ⟨v93, l⟩ := l
  · simp at hl
  obtain _ | ⟨v94, l⟩ := l
  · simp at hl
  obtain _ | ⟨v95, l⟩ := l
  · simp at hl
  obtain _ | ⟨v96, l⟩ := l
  · simp at hl
  obtain _ | ⟨v97, l⟩ := l
  · simp at hl
  obtain _ | ⟨v98, l⟩ := l
  · simp at hl
  obtain _ | ⟨v99, l⟩ := l
  · simp at hl
  obtain _ | ⟨v100, l⟩ := l
  · simp at hl
  obtain _ | ⟨v101, l⟩ := l
  · simp at hl
  obtain _ | ⟨v102, l⟩ := l
  · simp at hl
  obtain _ | ⟨v103, l⟩ := l
  · simp at hl
  obtain _ | ⟨v104, l⟩ := l
  · simp at hl
  obtain _ | ⟨v105, l⟩ := l
  · simp at hl
  obtain _ | ⟨v106, l⟩ := l
  · simp at hl
  obtain _ | ⟨v107, l⟩ := l
  · simp at hl
  obtain _ | ⟨v108, l⟩ := l
  · simp at hl
  obtain _ | ⟨v109, l⟩ := l
  · simp at hl
  obtain _ | ⟨v110, l⟩ := l
  · simp at hl
  obtain _ | ⟨v111, l⟩ := l
  · simp at hl
  obtain _ | ⟨v112, l⟩ := l
  · simp at hl
  obtain _ | ⟨v113, l⟩ := l
  · simp at hl
  obtain _ | ⟨v114, l⟩ := l
  · simp at hl
  obtain _ | ⟨v115, l⟩ := l
  · simp at hl
  obtain _ | ⟨v116, l⟩ := l
  · simp at hl
  obtain _ | ⟨v117, l⟩ := l
  · simp at hl
  obtain _ | ⟨v118, l⟩ := l
  · simp at hl
  obtain _ | ⟨v119, l⟩ := l
  · simp at hl
  obtain _ | ⟨v120, l⟩ := l
  · simp at hl
  obtain _ | ⟨v121, l⟩ := l
  · simp at hl
  obtain _ | ⟨v122, l⟩ := l
  · simp at hl
  obtain _ | ⟨v123, l⟩ := l
  · simp at hl
  obtain _ | ⟨v124, l⟩ := l
  · simp at hl
  obtain _ | ⟨v125, l⟩ := l
  · simp at hl
  obtain _ | ⟨v126, l⟩ := l
  · simp at hl
  obtain _ | ⟨v127, l⟩ := l
  · simp at hl
  obtain _ | ⟨v128, l⟩ := l
  · simp at hl
  obtain _ | ⟨v129, l⟩ := l
  · simp at hl
  obtain _ | ⟨v130, l⟩ := l
  · simp at hl
  obtain _ | ⟨v131, l⟩ := l
  · simp at hl
  obtain _ | ⟨v132, l⟩ := l
  · simp at hl
  obtain _ | ⟨v133, l⟩ := l
  · simp at hl
  obtain _ | ⟨v134, l⟩ := l
  · simp at hl
  obtain _ | ⟨v135, l⟩ := l
  · simp at hl
  obtain _ | ⟨v136, l⟩ := l
  · simp at hl
  obtain _ | ⟨v137, l⟩ := l
  · simp at hl
  obtain _ | ⟨v138, l⟩ := l
  · simp at hl
  obtain _ | ⟨v139, l⟩ := l
  · simp at hl
  obtain _ | ⟨v140, l⟩ := l
  · simp at hl
  obtain _ | ⟨v141, l⟩ := l
  · simp at hl
  obtain _ | ⟨v142, l⟩ := l
  · simp at hl
  obtain _ | ⟨v143, l⟩ := l
  · simp at hl
  obtain _ | ⟨v144, l⟩ := l
  · simp at hl
  obtain _ | ⟨v145, l⟩ := l
  · simp at hl
  obtain _ | ⟨v146, l⟩ := l
  · simp at hl
  obtain _ | ⟨v147, l⟩ := l
  · simp at hl
  obtain _ | ⟨v148, l⟩ := l
  · simp at hl
  obtain _ | ⟨v149, l⟩ := l
  · simp at hl
  obtain _ | ⟨v150, l⟩ := l
  · simp at hl
  obtain _ | ⟨v151, l⟩ := l
  · simp at hl
  obtain _ | ⟨v152, l⟩ := l
  · simp at hl
  obtain _ | ⟨v153, l⟩ := l
  · simp at hl
  obtain _ | ⟨v154, l⟩ := l
  · simp at hl
  obtain _ | ⟨v155, l⟩ := l
  · simp at hl
  obtain _ | ⟨v156, l⟩ := l
  · simp at hl
  obtain _ | ⟨v157, l⟩ := l
  · simp at hl
  obtain _ | ⟨v158, l⟩ := l
  · simp at hl
  obtain _ | ⟨x, l⟩ := l
  · exact ⟨_, _, _, _, _, _, _, _, _, _, _, _, _, _, _, _, _, _, _, _, _, _, _, _, _, _, _, _, _, _, _, _, _, _, _, _, _, _, _, _, _, _, _, _, _, _, _, _, _, _, _, _, _, _, _, _, _, _, _, _, _, _, _, _, _, _, _, _, _, _, _, _, _, _, _, _, _, _, _, _, _, _, _, _, _, _, _, _, _, _, _, _, _, _, _, _, _, _, _, _, _, _, _, _, _, _, _, _, _, _, _, _, _, _, _, _, _, _, _, _, _, _, _, _, _, _, _, _, _, _, _, _, _, _, _, _, _, _, _, _, _, _, _, _, _, _, _, _, _, _, _, _, _, _, _, _, _, _, _, rfl⟩
  · simp only [List.length_cons] at hl
    omega

end
end Go.Proofs.Ytggfcdhkgldbfaa
