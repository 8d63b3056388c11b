/-
  PARTS of a claim, merged by segs.py: CwRun, CwNot, CwRun2.
-/
import Derived.Test.YtggfcdhkgldbfaaDoorS30
import Derived.Test.YtggfcdhkgldbfaaDoorS24
import Derived.Test.YtggfcdhkgldbfaaDoorS25
namespace Go.Proofs.YtggfcdhkgldbfaaDoor
set_option linter.unusedSimpArgs false
set_option linter.unusedVariables false

/-! ### CwRun -/
section
set_option linter.unusedSimpArgs false
open Go Go.Conc Go.RowKit Go.ConcR.Gen Cw
open Go.ConcN (sumTo upd upd_same upd_ne sumTo_upd sumTo_congr le_sumTo WgLive)

/-- At the making of the group. -/
noncomputable def ops9 : Array Oper := opsOf (lf (rt (rt (rt (rt (rt (rt bodyM)))))))
set_option maxRecDepth 100000 in
theorem g_group {mn : Bool} (T : Array Value) (cs : List Frame) (w : World) : stepG Tryd.prog mn (G (fRun T (.inRegion ops9 [0] :: .code cd7 :: [])) cs) w = .go (G (fRun (T.setIfInBounds 8 (pb w.heap.size)) (.inRegion ops9 [] :: .code cd7 :: [])) cs) (w.alloc (Go.ConcR.wgBlock link.tWg 0 0)) #[] := by
  obtain ⟨ps, ho⟩ : ∃ ps, ops9[0]? = some { dst := some 8, op := .alloc 62, type := 0, pos := ps, after := #[], guard := none } := by
    refine ⟨((ops9[0]?).map (fun o => o.pos)).getD "", ?_⟩
    simp only [ops9, bodyM, inner, rt, lf, opsOf, Tryd.f6, Option.getD_some]
    rfl
  have hr : (execOp (⟨T, []⟩ : Act).eval { dst := some 8, op := .alloc 62, type := 0, pos := ps, after := #[], guard := none }).run Tryd.prog w = .ok (.value (pb w.heap.size)) (w.alloc (Go.ConcR.wgBlock link.tWg 0 0)) := by
    simp [execOp, go_sem]
    rfl
  refine (stepG_value ho rfl (by k_ne) hr).trans ?_
  rw [listed_nil (by simp [execOp, go_sem])]
  rfl

set_option maxRecDepth 100000 in
/-- Behind it, to the head of the spawn loop. -/
theorem r_begin4 {X : Cx} {Q : World → Prop} {mn : Bool} (hrl : ∀ w w', Q w → Ext Vn w w' → Q w') {ps wk : Value} {al : Option Addr} {n tcap tb ev wg : Nat} (hc : ∀ w, Q w → w.cell? ⟨tb, 0, none⟩ = some (.slice al n tcap)) (hsh : ¬ X.Sh (.cell ⟨tb, 0, none⟩)) (cs : List Frame) (w : World) (hF : Q w) (T : Array Value) (hT : T.size = 79) (h0 : T[0]? = some ps) (h3 : T[3]? = some (pb tb)) (h6 : T[6]? = some (pb ev)) (h7 : T[7]? = some wk) (h8 : T[8]? = some (pb wg)) :
    Goes Tryd.prog mn (Ext Vn) (HDq X) (fun g w => Head1 ps wk (.slice al n tcap) n 0 wg ev cs g ∧ Q w) 20 (G (fRun T (.inRegion ops9 [] :: .code cd7 :: [])) cs) w := by
  obtain ⟨v0, v1, v2, v3, v4, v5, v6, v7, v8, v9, v10, v11, v12, v13, v14, v15, v16, v17, v18, v19, v20, v21, v22, v23, v24, v25, v26, v27, v28, v29, v30, v31, v32, v33, v34, v35, v36, v37, v38, v39, v40, v41, v42, v43, v44, v45, v46, v47, v48, v49, v50, v51, v52, v53, v54, v55, v56, v57, v58, v59, v60, v61, v62, v63, v64, v65, v66, v67, v68, v69, v70, v71, v72, v73, v74, v75, v76, v77, v78, rfl⟩ := array79 T hT
  simp only [List.getElem?_toArray, List.getElem?_cons_zero, List.getElem?_cons_succ, Option.some.injEq] at h0 h3 h6 h7 h8
  subst h0
  subst h3
  subst h6
  subst h7
  subst h8
  simp only [fRun, ops9, cd7, rnd1, cd8, bodyM, inner, rt, lf, opsOf, Tryd.f6, Option.getD_some]
  refine Goes.step rfl (fun w hr => ?_)
  replace hF := (hrl _ _) hF hr
  clear hr
  rw [stepG_region_end]
  simp only [goes_go]
  refine ⟨hdq_idle _ _, ?_⟩
  refine Goes.step rfl (fun w hr => ?_)
  replace hF := (hrl _ _) hF hr
  clear hr
  rw [stepG_seq]
  simp only [goes_go]
  refine ⟨hdq_idle _ _, ?_⟩
  refine Goes.step rfl (fun w hr => ?_)
  replace hF := (hrl _ _) hF hr
  clear hr
  rw [stepG_seq]
  simp only [goes_go]
  refine ⟨hdq_idle _ _, ?_⟩
  refine Goes.step rfl (fun w hr => ?_)
  replace hF := (hrl _ _) hF hr
  clear hr
  rw [stepG_region]
  simp only [goes_go, List.size_toArray, List.length_cons, List.length_nil, Nat.reduceAdd, Nat.zero_add, List.range, List.range.loop]
  refine ⟨hdq_idle _ _, ?_⟩
  refine Goes.step rfl (fun w hr => ?_)
  replace hF := (hrl _ _) hF hr
  clear hr
  have hc := hc w hF
  refine goes_oper_k rfl rfl (by k_ne) (fun K hK => ?_)
  go_simp
  refine hK _ _ ⟨?_, ?_⟩
  · refine hdq_read (fun e he => ?_)
    have hm := mem_listed he
    simp [go_sem, *] at hm
    exact ⟨_, hm, block_of_cell hc, hsh⟩
  clear hK K hc
  try walk_nrm
  refine Goes.step rfl (fun w hr => ?_)
  replace hF := (hrl _ _) hF hr
  clear hr
  refine goes_oper_k rfl rfl (by k_ne) (fun K hK => ?_)
  go_simp
  refine hK _ _ ⟨?_, ?_⟩
  · rw [listed_nil (by simp [go_sem])]; exact hdq_idle _ _
  clear hK K
  try walk_nrm
  refine Goes.step rfl (fun w hr => ?_)
  replace hF := (hrl _ _) hF hr
  clear hr
  refine goes_oper_k rfl rfl (by k_ne) (fun K hK => ?_)
  go_simp
  refine hK _ _ ⟨?_, ?_⟩
  · rw [listed_nil (by simp [go_sem])]; exact hdq_idle _ _
  clear hK K
  try walk_nrm
  refine Goes.step rfl (fun w hr => ?_)
  replace hF := (hrl _ _) hF hr
  clear hr
  rw [stepG_region_end]
  simp only [goes_go]
  refine ⟨hdq_idle _ _, ?_⟩
  refine Goes.step rfl (fun w hr => ?_)
  replace hF := (hrl _ _) hF hr
  clear hr
  rw [stepG_block]
  simp only [goes_go]
  refine ⟨hdq_idle _ _, ?_⟩
  refine Goes.step rfl (fun w hr => ?_)
  replace hF := (hrl _ _) hF hr
  clear hr
  rw [stepG_loop]
  simp only [goes_go]
  refine ⟨hdq_idle _ _, ?_⟩
  refine Goes.stop (fun w hr => ⟨⟨_, ?_, ?_, ?_, ?_, ?_, ?_, ?_, ?_, rfl⟩, hrl _ _ hF hr⟩) <;> rfl
end

/-! ### CwNot -/
section
set_option linter.unusedSimpArgs false
open Go Go.Conc Go.RowKit Go.ConcR.Gen Cw

section
variable (W : World) (us : List Value) (L : List (List ByteArray))
def slK (k : Nat) : Value := us[k]?.getD (.slice none 0 0)
def Sk (k : Nat) : List ByteArray := L[k]?.getD []
def notesT : Tasks where
  Λ := Nat
  M := Unit
  tv := fun k => .iface 72 (slK us k)
  l0 := fun _ => 0
  At := fun r wg ev k j b1 b2 _ g => (j = 0 ∧ g = at1 wg r.bw r.bt ev r.bi r.bs r.cr b1 b2 (.iface 72 (slK us k))) ∨
    (∃ j' s a c x0 x1 x2 x3 xv, j = j' + 1 ∧ slK us k = .slice a (Sk L k).length c ∧ (Sk L k)[j']? = some s ∧ g = atR r.bs r.cr r.cp b1 b2 ev r.bi s ((base 78).at (actN a (Sk L k).length c (yldF b1 b2) j' s x0 x1 x2 x3) (.inRegion opsN [2] :: todoN) ::
      [frR ev r.bi r.bs r.cr b1 b2 (.iface 72 (slK us k)) xv, fr3 wg r.bw r.bt ev r.bi r.bs (.iface 72 (slK us k)), bot]))
  Tm := fun _ w => ∀ b, b < W.heap.size → w.heap[b]? = W.heap[b]?
  next := fun k j m => match (Sk L k)[j]? with
    | some s => (m, some (s, j + 1))
    | none => (m, none)
  rk := fun k j => (Sk L k).length - j
  Inv := fun _ _ _ _ => True
end
section
variable {W : World} {us : List Value} {L : List (List ByteArray)}
theorem nts_old {a : Option Addr} {S : List ByteArray} (h : Nts a S W) {w : World} (hw : ∀ b, b < W.heap.size → w.heap[b]? = W.heap[b]?) : Nts a S w := by
  rcases h with h | ⟨p, o, ha, hc⟩
  · exact .inl h
  · exact .inr ⟨p, o, ha, fun k s hk => by rw [cell_of_block (hw _ (block_of_cell (hc k s hk)))]; exact hc k s hk⟩
theorem wg_no {ty : TypeId} {b x : Nat} {st sm : Int} {v : Value} (hw : Go.ConcR.WgAt ty b W st sm) (hc : W.cell? ⟨b, x, none⟩ = some v) (hv : notWg v = true) : False := by
  unfold Go.ConcR.WgAt Go.ConcR.wgBlock at hw
  unfold World.cell? at hc
  simp only [hw] at hc
  rcases x with _ | _ | x
  · simp at hc; subst hc; cases hv
  · simp at hc; subst hc; cases hv
  · simp at hc
set_option maxHeartbeats 1000000 in
/-- From the loop's head to the end of the turn. -/
theorem n_head {Sh0 : Loc → Prop} (hS0 : ShOk Sh0 W) {X : Cx} {V : Nat → Prop} {B : Nat} {r : Wk} {wg ev k b1 b2 : Nat} {E : List (Int × ByteArray)} {Wr : World → Prop} {ex : Addr → Value → Prop} {a : Option Addr} {c : Nat} (hsl : slK us k = .slice a (Sk L k).length c) (hnt : Nts a (Sk L k) W) (hn63 : (Sk L k).length < 9223372036854775807)
    (fx : ∀ m : Unit, Fx X V B (LeanX r ev b1 b2 (.iface 72 (slK us k)) k ex) ev (fun w => Wr w ∧ (notesT W us L).Tm m w)) (hsh : ∀ a, X.Sh (.cell a) → Sh0 (.cell a) ∨ W.heap.size ≤ a.block) (hE : (E.length + 1) * 1024 ≤ 140737488355328) (xv : Value) (j : Nat) (hj : j ≤ (Sk L k).length) :
    ∃ N, ∀ y0 y1 y2 y3 y4 y5 y6 y7 w, WB B (LeanX r ev b1 b2 (.iface 72 (slK us k)) k ex) (fun w => Wr w ∧ (notesT W us L).Tm () w) w ∧ (∃ u, Evs X V ev E u w) →
      Goes Tryd.prog false (Ext V) (HDq X) ((notesT W us L).Turned X V B r wg ev k j () b1 b2 E Wr ex) N (headN a (Sk L k).length c (yldF b1 b2) j y0 y1 y2 y3 y4 y5 y6 y7 [frR ev r.bi r.bs r.cr b1 b2 (.iface 72 (slK us k)) xv, fr3 wg r.bw r.bt ev r.bi r.bs (.iface 72 (slK us k)), bot]) w := by
  have hq : ∀ w w', Ext V w w' → (∃ u, Evs X V ev E u w) → ∃ u, Evs X V ev E u w' := fun w w' r h => h.imp fun u hu => evs_rl (fx ()) w w' r hu
  have hT : ∀ a b c, Ext V a b → Ext V b c → Ext V a c := fun _ _ _ h r => h.trans r
  by_cases hjn : j < (Sk L k).length
  · obtain ⟨s, hs⟩ : ∃ s, (Sk L k)[j]? = some s := ⟨_, List.getElem?_eq_getElem hjn⟩
    have hSh : ∀ p o, a = some ⟨p, o, none⟩ → ∀ k, ¬ X.Sh (.cell ⟨p, k, none⟩) := by
      intro p o ha i hx
      rcases hnt with h | ⟨p', o', ha', hc⟩
      · rw [h] at hjn; simp at hjn
      · rw [ha] at ha'
        obtain ⟨rfl, rfl⟩ : p = p' ∧ o = o' := by cases ha'; exact ⟨rfl, rfl⟩
        have hcell := hc j s hs
        rcases hsh _ hx with h | h
        · obtain ⟨st, sm, hw⟩ := hS0 _ h
          exact wg_no hw hcell rfl
        · have := block_of_cell hcell
          simp only at h this
          omega
    refine ⟨30 + 60, fun y0 y1 y2 y3 y4 y5 y6 y7 w hF => ?_⟩
    refine goes_then hT (S := fun g w => (∃ x0 x1 x2 x3, g = G ((base 39).at ⟨#[.string s, pb b2, pb b1, undef, undef, undef, undef, undef, undef, undef, undef, undef, undef, undef, undef, undef], []⟩ [.code bodyY])
      ((base 78).at (actN a (Sk L k).length c (yldF b1 b2) j s x0 x1 x2 x3) (.inRegion opsN [2] :: todoN) :: [frR ev r.bi r.bs r.cr b1 b2 (.iface 72 (slK us k)) xv, fr3 wg r.bw r.bt ev r.bi r.bs (.iface 72 (slK us k)), bot])) ∧ WB B (LeanX r ev b1 b2 (.iface 72 (slK us k)) k ex) (fun w => Wr w ∧ (notesT W us L).Tm () w) w ∧ ∃ u, Evs X V ev E u w) (fun g w h => ?_) (Ext.refl V w)
      (n_yield (fx ()) hq (S := Sk L k) (fun w h => nts_old hnt h.2) hSh b1 b2 j s hs y0 y1 y2 y3 y4 y5 y6 y7 _ w hF) (fun a => Ext.refl V a)
    obtain ⟨⟨x0, x1, x2, x3, rfl⟩, hW, u, hu⟩ := h
    refine goes_imp (fun _ _ x => x) (fun _ _ _ x => x) (fun g w h => ?_) (y_walk (fun _ _ h => .inl h) (fx ()) s hE _ w ⟨hW, hu⟩)
    obtain ⟨rfl, h2, u', h3⟩ := h
    exact .inl ⟨(), s, j + 1, _, u', ex, by simp only [notesT, hs], rfl, .inr ⟨j, s, a, c, x0, x1, x2, x3, xv, rfl, hsl, hs, rfl⟩, h2, fun a v h => .inl h, h3⟩
  · obtain rfl : j = (Sk L k).length := by omega
    have hnone : (Sk L k)[(Sk L k).length]? = none := List.getElem?_eq_none (Nat.le_refl _)
    refine ⟨20 + 9, fun y0 y1 y2 y3 y4 y5 y6 y7 w hF => ?_⟩
    refine n_end hT ev r.bi r.bs r.cr b1 b2 (.iface 72 (slK us k)) xv a (Sk L k).length c (yldF b1 b2) y0 y1 y2 y3 y4 y5 y6 y7 _ w ?_
    refine goes_imp (fun _ _ x => x) (fun _ _ _ x => x) (fun g w h => ?_) (x_walk (fun _ _ h => .inl h) (fx ()) hq xv _ w hF)
    obtain ⟨rfl, h2, u, h3⟩ := h
    exact .inr ⟨(), xv, u, by simp only [notesT, hnone], rfl, h2, h3⟩
/-- THE NOTES ARE SUCH TASKS. -/
theorem notes_ok {Sh0 : Loc → Prop} (hS0 : ShOk Sh0 W) (hrow : ∀ k, ∃ a c, slK us k = .slice a (Sk L k).length c ∧ Nts a (Sk L k) W ∧ (Sk L k).length < 9223372036854775807) : TasksOk (notesT W us L) W.heap.size Sh0 where
  old := fun _ w w' h hw b hb => (h b hb).trans (hw b hb)
  tvi := fun k => ⟨_, _, rfl⟩
  birth := fun r wg ev k b1 b2 => .inl ⟨rfl, rfl⟩
  rk := fun k (l : Nat) m m' s (l' : Nat) h => by
    change (match (Sk L k)[l]? with | some s => (m, some (s, l + 1)) | none => (m, none)) = (m', some (s, l')) at h
    change (Sk L k).length - l' < (Sk L k).length - l
    cases hs : (Sk L k)[l]? with
    | none => rw [hs] at h; simp at h
    | some x =>
      rw [hs] at h
      simp at h
      obtain ⟨_, _, rfl⟩ := h
      have := (List.getElem?_eq_some_iff.1 hs).1
      omega
  inv := fun _ _ _ => trivial
  turn := fun X V B r wg ev k l m b1 b2 E u xv Wr ex w g _ hAt fx _ _ hsh _ _ _ hE hF => by
    obtain ⟨a, c, hsl, hnt, hn63⟩ := hrow k
    have hT : ∀ a b c, Ext V a b → Ext V b c → Ext V a c := fun _ _ _ h r => h.trans r
    rcases hAt with ⟨rfl, rfl⟩ | ⟨j', s, a', c', x0, x1, x2, x3, xv', rfl, hsl', hs, rfl⟩
    · obtain ⟨N, hN⟩ := n_head (wg := wg) hS0 hsl hnt hn63 fx hsh hE xv 0 (Nat.zero_le _)
      refine ⟨N + 13, ?_⟩
      show Goes _ _ _ _ _ _ (Go.Conc.served (at1 wg r.bw r.bt ev r.bi r.bs r.cr b1 b2 (.iface 72 (slK us k))) xv) w
      have hh := fun y0 y1 y2 y3 y4 y5 y6 y7 => hN y0 y1 y2 y3 y4 y5 y6 y7 w ⟨hF.1, u, hF.2⟩
      rw [hsl] at hh ⊢
      exact n_begin hT wg r.bw r.bt ev r.bi r.bs r.cr b1 b2 a (Sk L k).length c xv w hh
    · obtain ⟨rfl, rfl⟩ : a = a' ∧ c = c' := by rw [hsl] at hsl'; cases hsl'; exact ⟨rfl, rfl⟩
      have hlt := (List.getElem?_eq_some_iff.1 hs).1
      obtain ⟨N, hN⟩ := n_head (wg := wg) hS0 hsl hnt hn63 fx hsh hE xv' (j' + 1) (by omega)
      refine ⟨N + 7 + 3, ?_⟩
      refine y_on hT r.bs r.cr r.cp b1 b2 ev r.bi s xv _ w ?_
      exact n_next hT a (Sk L k).length c hn63 (yldF b1 b2) j' hlt s x0 x1 x2 x3 _ w fun y0 y1 y2 y3 y4 y5 y6 y7 => hN y0 y1 y2 y3 y4 y5 y6 y7 w ⟨hF.1, u, hF.2⟩
end
end

/-! ### CwRun2 -/
section
set_option linter.unusedSimpArgs false
open Go Go.Conc Go.RowKit Go.ConcR.Gen Cw
open Go.ConcN (sumTo upd upd_same upd_ne sumTo_upd sumTo_congr le_sumTo WgLive)

/-- The world at a call of sched.Run. -/
structure Pre (Sh : Loc → Prop) (al ap : Option Addr) (us : List Value) (L : List (List ByteArray)) (ps : List Nat) (W : World) : Prop where
  sh : ShOk Sh W
  tasks : VRow W al (ifs us)
  picks : VRow W ap (ints ps)
  rows : ∀ k, ∃ a c, slK us k = .slice a (Sk L k).length c ∧ Nts a (Sk L k) W
/-- What is old stands. -/
def Keep (W w : World) : Prop := W.heap.size ≤ w.heap.size ∧ ∀ b, b < W.heap.size → w.heap[b]? = W.heap[b]?
noncomputable def entryT (x y : Value) : Array Value := #[x, y, undef, undef, undef, undef, undef, undef, undef, undef, undef, undef, undef, undef, undef, undef, undef, undef, undef, undef, undef, undef, undef, undef, undef, undef, undef, undef, undef, undef, undef, undef, undef, undef, undef, undef, undef, undef, undef, undef, undef, undef, undef, undef, undef, undef, undef, undef, undef, undef, undef, undef, undef, undef, undef, undef, undef, undef, undef, undef, undef, undef, undef, undef, undef, undef, undef, undef, undef, undef, undef, undef, undef, undef, undef, undef, undef, undef, undef]
theorem pre_ext {Sh : Loc → Prop} {W w : World} (h : ShOk Sh W) (r : Ext Vn W w) : ShOk Sh w := fun a ha => by
  obtain ⟨st, sm, hw⟩ := h a ha
  refine ⟨st, sm, ?_⟩
  unfold Go.ConcR.WgAt at hw ⊢
  rw [r.same _ (Array.getElem?_eq_some_iff.1 hw).1 id]
  exact hw
theorem vrow_ext {W w : World} {a : Option Addr} {us : List Value} (h : VRow W a us) (r : Ext Vn W w) : VRow w a us := by
  rcases h with h | ⟨b, o, ha, hc⟩
  · exact .inl h
  · exact .inr ⟨b, o, ha, fun k u hk => cell_ext r (hc k u hk)⟩
/-- The place of a row, some place where there is none. -/
theorem vrow_at {Sh : Loc → Prop} {W : World} (hS : ShOk Sh W) {a : Option Addr} {us : List Value} (h : VRow W a us) (hx : ∀ u ∈ us, notWg u = true) (e : Nat) (he : ∀ k, ¬ Sh (.cell ⟨e, k, none⟩)) : ∃ b o, (us = [] ∨ a = some ⟨b, o, none⟩) ∧ (∀ (k : Nat) (u : Value), us[k]? = some u → b < W.heap.size ∧ W.cell? ⟨b, o + k, none⟩ = some u) ∧ (∀ k, ¬ Sh (.cell ⟨b, k, none⟩)) ∧ (b = e ∨ b < W.heap.size) := by
  rcases h with h | ⟨b, o, ha, hc⟩
  · exact ⟨e, 0, .inl h, fun k u hk => by rw [h] at hk; simp at hk, he, .inl rfl⟩
  · cases us with
    | nil => exact ⟨e, 0, .inl rfl, fun k u hk => by simp at hk, he, .inl rfl⟩
    | cons x r =>
      have h0 := hc 0 x rfl
      have hb := block_of_cell h0
      exact ⟨b, o, .inr ha, fun k u hk => ⟨hb, hc k u hk⟩, fun k hs => by
        obtain ⟨st, sm, hw⟩ := hS _ hs
        exact wg_no hw h0 (hx x (by simp)), .inr hb⟩
section
variable {Sh : Loc → Prop} {al ap : Option Addr} {us : List Value} {L : List (List ByteArray)} {ps : List Nat}
set_option maxHeartbeats 2000000 in
theorem run_notes [Ref] {γ tcap pcap : Nat} {Q : World → Prop} (hγ : 1 ≤ γ) (hn : us.length ≤ 64) (hnp : ps.length ≤ 4096) (hps : ∀ i ∈ ps, i < us.length) (hus : ∀ u ∈ us, IsSl u) (hLb : ∀ k, (Sk L k).length ≤ 1000000)
    {b₀ : Frame} {a₀ : Act} {ops : Array Oper} {j : Nat} {rest : List Nat} {kk : List Item} {cs : List Frame} {m : Machine} {T : Trace}
    (H : Held Tryd.prog (Cx0 Sh) Vn 0 0 γ Gone (fun g w => g = G (fRun (entryT (.slice ap ps.length pcap) (.slice al us.length tcap)) [.code bodyM]) (b₀.at a₀ (.inRegion ops (j :: rest) :: kk) :: cs) ∧ Pre Sh al ap us L ps w ∧ Q w) m T) :
    Lands Tryd.prog m T (fun m' T' => ∃ Sh', Held Tryd.prog (Cx0 Sh') Vn 0 0 (γ + us.length) Gone (fun g w => ∃ W u, g = G (b₀.at (a₀.put ((ops[j]?).bind (·.dst)) (.tuple #[u, .int .i64 0])) (.inRegion ops rest :: kk)) cs ∧ Pre Sh al ap us L ps W ∧ Q W ∧ Keep W w ∧ ShOk Sh' w ∧
      w.ownsRow W.heap.size 70 2 u ((notesT W us L).fin () us.length ps).E.length (evCells ((notesT W us L).fin () us.length ps).E)) m' T') := by
  obtain ⟨gs, W, sl, q, Rd, B, cn, g, rfl, hgs, hg, ⟨rfl, hP, hQ⟩, hB, C⟩ := H
  have hS := hP.sh
  have hlen : (ifs us).length = us.length := by simp [ifs]
  have H₀ : Held Tryd.prog (Cx0 Sh) Vn 0 0 γ Gone (fun g w => g = G (fRun (entryT (.slice ap ps.length pcap) (.slice al us.length tcap)) [.code bodyM]) (b₀.at a₀ (.inRegion ops (j :: rest) :: kk) :: cs) ∧ Kn W [] w) (crowd gs W sl) T := ⟨gs, W, sl, q, Rd, B, cn, _, rfl, hgs, hg, ⟨rfl, Ext.refl Vn W, by simp⟩, hB, C⟩
  clear hg hB C
  -- to the first test
  refine (H₀.walk gone_stb fun g w hK => ⟨40, by obtain ⟨rfl, hK⟩ := hK; exact r_begin1 (mn := (0 == 0)) hS (al := al) (ap := ap) (tcap := tcap) (pcap := pcap) hn hnp _ w hK⟩).bind fun m₁ T₁ H₁ => ?_
  obtain ⟨tb, H₁⟩ := H₁.ex
  obtain ⟨Ts, H₁⟩ := H₁.ex
  obtain ⟨⟨s1, s2, s3, s4⟩, H₁⟩ := H₁.and
  -- no task is nil
  refine (H₁.walk gone_stb fun g w hK => by
    obtain ⟨rfl, hK⟩ := hK
    obtain ⟨k1, hk1⟩ := c_run1 (Sh := Sh) (W := w) (main := (0 == 0))
    obtain ⟨kc, hkc⟩ := c_conT (main := (0 == 0)) (pre_ext hS hK.1) tcap (vrow_ext hP.tasks hK.1) (by rw [hlen]; omega) (fun u hu => by obtain ⟨x, _, rfl⟩ := List.mem_map.1 hu; rfl) (f := 12) (cap := #[]) ⟨k1, fun x hx w' hw' => by obtain ⟨y, _, rfl⟩ := List.mem_map.1 hx; exact hk1 _ _ w' hw'⟩
    rw [hlen] at hkc
    exact ⟨20 + kc + 3, r_begin2 (mn := (0 == 0)) hS (np := ps.length) (pcap := pcap) _ w hK Ts s1 s2 s3 s4 hkc⟩).bind fun m₂ T₂ H₂ => ?_
  obtain ⟨Ts₂, H₂⟩ := H₂.ex
  obtain ⟨⟨p1, p2, p3, p4, p5⟩, H₂⟩ := H₂.and
  -- every pick is a task's
  refine (H₂.walk gone_stb fun g w hK => by
    obtain ⟨rfl, hK⟩ := hK
    have hbx := (hK.2 (tb, Obj.cells #[.slice al us.length tcap] 25 (0, 0)) (by simp)).2
    have hbc : w.cell? ⟨tb, 0, none⟩ = some (.slice al us.length tcap) := by simp only at hbx; simp [World.cell?, hbx]
    obtain ⟨k2, hk2⟩ := c_run2 (main := (0 == 0)) (pre_ext hS hK.1) hbc
    obtain ⟨kc, hkc⟩ := c_conI (main := (0 == 0)) (pre_ext hS hK.1) pcap (vrow_ext hP.picks hK.1) (by simp [ints]; omega) (fun u hu => by obtain ⟨x, _, rfl⟩ := List.mem_map.1 hu; rfl) (f := 14) (cap := #[pb tb]) ⟨k2, fun x hx w' hw' => by obtain ⟨y, hy, rfl⟩ := List.mem_map.1 hx; exact hk2 y w' (hps y hy) hw'⟩
    rw [show (ints ps).length = ps.length by simp [ints]] at hkc
    exact ⟨30 + kc + 3, r_begin3 (mn := (0 == 0)) hS hn _ w hK Ts₂ p1 p2 p3 p4 p5 hkc⟩).bind fun m₃ T₃ H₃ => ?_
  obtain ⟨eb, H₃⟩ := H₃.ex
  obtain ⟨ev, H₃⟩ := H₃.ex
  obtain ⟨wb, H₃⟩ := H₃.ex
  obtain ⟨Ts₃, H₃⟩ := H₃.ex
  obtain ⟨⟨q1, q2, q3, q4, q5⟩, H₃⟩ := H₃.and
  -- the group
  obtain ⟨gs, w, sl, q, Rd, B, cn, g, rfl, hgs, hg, ⟨rfl, hK⟩, hB, C⟩ := H₃
  obtain ⟨N, gs', d, sl', T', q', B', cn', hrun, hsz, hg', hgone, C'⟩ := C.toCrew.group (sl := sl) (o := Go.ConcR.wgBlock link.tWg 0 0) (a' := G (fRun (Ts₃.setIfInBounds 8 (pb w.heap.size)) (.inRegion ops9 [] :: .code cd7 :: [])) (b₀.at a₀ (.inRegion ops (j :: rest) :: kk) :: cs)) hB id (fun a h => h) (fun c h => h) hg rfl (fun d => g_group (mn := (0 == 0)) Ts₃ _ (w.at d))
  let c : Rc := { ks := [], wb := wb, ev := ev, wg := w.heap.size, N₀ := W.heap.size, B₀ := w.heap.size + 1, γ := γ, Sh := fun l => Sh l ∨ ∃ x : Addr, l = .cell x ∧ x.block = w.heap.size }
  have kwb := hK.2 (wb, mkW us.length) (by simp)
  have kev := hK.2 (ev, Obj.cells #[.slice (some ⟨eb, 0, none⟩) 0 0] 31 (0, 0)) (by simp)
  have keb := hK.2 (eb, Obj.cells #[] 70 (0, 0)) (by simp)
  have ktb := hK.2 (tb, Obj.cells #[.slice al us.length tcap] 25 (0, 0)) (by simp)
  simp only at kwb kev keb ktb
  have lt : ∀ {b : Nat} {o : Obj}, w.heap[b]? = some o → b < w.heap.size := fun h => (Array.getElem?_eq_some_iff.1 h).1
  have lwb := lt kwb.2
  have lev := lt kev.2
  have leb := lt keb.2
  have ltb := lt ktb.2
  have nwe : wb ≠ ev := fun e => by have := kwb.2; rw [e, kev.2] at this; simp at this
  have nwb : eb ≠ wb := fun e => by have := keb.2; rw [e, kwb.2] at this; simp at this
  have hshl : ∀ a, Sh (.cell a) → a.block < W.heap.size := fun a ha => by obtain ⟨_, _, hw⟩ := hS a ha; exact (Array.getElem?_eq_some_iff.1 hw).1
  have S : Rs c := by
    refine ⟨fun k k' r r' hk => by simp [c] at hk, fun r hr => by simp [c] at hr, fun r hr => by simp [c] at hr, ⟨kwb.1, by show wb < w.heap.size + 1; omega, by show wb ≠ w.heap.size; omega, nwe⟩, ⟨kev.1, by show ev < w.heap.size + 1; omega, by show ev ≠ w.heap.size; omega⟩, ⟨hK.1.size, by show w.heap.size < w.heap.size + 1; omega⟩, fun a ha => ?_, fun a ha => .inr ⟨a, rfl, ha⟩, hγ⟩
    rcases ha with ha | ⟨x, e, hx⟩
    · exact .inl (hshl a ha)
    · rw [Loc.cell.inj e]; exact .inr hx
  have hsz1 : ((w.at d).alloc (Go.ConcR.wgBlock link.tWg 0 0)).heap.size = w.heap.size + 1 := by rw [World.size_alloc]; rfl
  have C₂ : Crew Tryd.prog (c.X False) Vn 0 0 B' (fun _ _ => False) cn' T' gs' ((w.at d).alloc (Go.ConcR.wgBlock link.tWg 0 0)) q' := by
    refine C'.anew (X' := c.X False) hgone id (fun a h => ?_) (fun b hb => ?_) rfl (fun x h => ?_)
    · obtain ⟨r, hr, _⟩ := h; simp [c] at hr
    · have hb' : b < W.heap.size := hb
      have := hK.1.size
      rw [hsz1]; omega
    · obtain ⟨r, hr, _⟩ := h; simp [c] at hr
  have hold : ∀ b, b < w.heap.size → ((w.at d).alloc (Go.ConcR.wgBlock link.tWg 0 0)).heap[b]? = w.heap[b]? := fun b hb => heap_alloc_old (w.at d) _ b hb
  have hnew : ((w.at d).alloc (Go.ConcR.wgBlock link.tWg 0 0)).heap[w.heap.size]? = some (Go.ConcR.wgBlock link.tWg 0 0) := heap_alloc_new (w.at d) _
  have hcs : ∀ (k : Nat), k < us.length → (madeCells #[.pointer none] us.length)[k]? = some (.pointer none) := fun k hk => by simp [madeCells, hk, Nat.mod_one]
  have hSW : SW (notesT W us L) c us.length () (.slice (some ⟨eb, 0, none⟩) 0 0) ((w.at d).alloc (Go.ConcR.wgBlock link.tWg 0 0)) := by
    refine ⟨fun k r hk => by simp [c] at hk, ⟨madeCells #[.pointer none] us.length, (hold wb lwb).trans kwb.2, by simp [madeCells], fun k r hk => by simp [c] at hk, fun k _ hk => hcs k hk⟩, fun b hb => ?_, by rw [hsz1]; exact Nat.le_refl _, ?_, (hold ev lev).trans kev.2, ⟨by simp, .inr ⟨eb, 0, #[], rfl, Nat.zero_le _, (hold eb leb).trans keb.2, Nat.le_refl _, Nat.zero_le _, by simp, by simp⟩⟩, fun g hg => ?_⟩
    · have := hK.1.size
      exact (hold b (by omega)).trans (hK.1.same b hb id)
    · show Go.ConcR.WgAt link.tWg w.heap.size _ (((0 : Nat) : Int) * Go.ConcR.KK) 0
      rw [show (((0 : Nat) : Int) * Go.ConcR.KK) = 0 by simp]
      exact hnew
    · obtain rfl : eb = g := by simpa [Value.ownBlock] using hg
      exact ⟨keb.1, by show eb < w.heap.size + 1; omega, by show eb ≠ w.heap.size; omega, nwb, fun r hr => by simp [c] at hr⟩
  have H₄ : Held Tryd.prog (c.X False) Vn 0 0 γ (BysS (notesT W us L) c) (fun g w' => g = G (fRun (Ts₃.setIfInBounds 8 (pb w.heap.size)) (.inRegion ops9 [] :: .code cd7 :: [])) (b₀.at a₀ (.inRegion ops (j :: rest) :: kk) :: cs) ∧ SW (notesT W us L) c us.length () (.slice (some ⟨eb, 0, none⟩) 0 0) w' ∧ w'.heap[tb]? = some (.cells #[.slice al us.length tcap] 25 (0, 0))) (crowd gs' ((w.at d).alloc (Go.ConcR.wgBlock link.tWg 0 0)) sl') T' :=
    ⟨gs', _, sl', q', _, B', cn', _, rfl, hsz.trans hgs, hg', ⟨rfl, hSW, (hold tb ltb).trans ktb.2⟩, ⟨fun j hj _ => hgone j (by omega), fun k r hk => by simp [c] at hk⟩, ⟨C₂, C.sys⟩⟩
  refine Lands.bind ⟨N, _, _, hrun, H₄⟩ fun m₄ T₄ H₄ => ?_
  have hrows : ∀ k, ∃ a c, slK us k = .slice a (Sk L k).length c ∧ Nts a (Sk L k) W ∧ (Sk L k).length < 9223372036854775807 := fun k => by
    obtain ⟨a, c, h1, h2⟩ := hP.rows k
    exact ⟨a, c, h1, h2, by have := hLb k; omega⟩
  have O : TasksOk (notesT W us L) c.N₀ Sh := notes_ok hS hrows
  have hput : ∀ k, k ≠ 8 → (Ts₃.setIfInBounds 8 (pb w.heap.size))[k]? = Ts₃[k]? := fun k hk => by simp [Array.getElem?_setIfInBounds, Ne.symm hk]
  refine (H₄.walk (K' := fun g w' => Head1 (.slice ap ps.length pcap) (.slice (some ⟨wb, 0, none⟩) us.length us.length) (.slice al us.length tcap) us.length 0 c.wg c.ev (b₀.at a₀ (.inRegion ops (j :: rest) :: kk) :: cs) g ∧ SW (notesT W us L) c us.length () (.slice (some ⟨eb, 0, none⟩) 0 0) w') bysS_stb fun g w' hK => ⟨20, ?_⟩).bind fun m₅ T₅ H₅ => ?_
  · obtain ⟨rfl, hQ'⟩ := hK
    refine goes_imp (fun _ _ x => x) (fun _ _ _ x => x) (fun g w h => ⟨h.1, h.2.1⟩) (r_begin4 (X := c.X False) (Q := fun w' => SW (notesT W us L) c us.length () (.slice (some ⟨eb, 0, none⟩) 0 0) w' ∧ w'.heap[tb]? = some (.cells #[.slice al us.length tcap] 25 (0, 0))) (fun w w' h r => ⟨h.1.ext S O r, (r.same _ (Array.getElem?_eq_some_iff.1 h.2).1 id).trans h.2⟩) (fun w h => by simp [World.cell?, h.2]) (S.nsh (b := tb) ktb.1 (by show tb ≠ w.heap.size; omega) rfl) _ w' hQ' _ (by simpa using q1) ((hput 0 (by decide)).trans q2) ((hput 3 (by decide)).trans q3) ((hput 6 (by decide)).trans q4) ((hput 7 (by decide)).trans q5) (by simp [q1]; rfl))
  -- the rest
  have hne : ∀ k, ¬ Sh (.cell ⟨ev, k, none⟩) := fun k h => by have := hshl _ h; simp only at this; omega
  obtain ⟨tp, to', ht1, ht2, ht3, ht4⟩ := vrow_at hS hP.tasks (fun u hu => by obtain ⟨x, _, rfl⟩ := List.mem_map.1 hu; rfl) ev hne
  obtain ⟨pp, po, hp1, hp2, hp3, hp4⟩ := vrow_at hS hP.picks (fun u hu => by obtain ⟨x, _, rfl⟩ := List.mem_map.1 hu; rfl) ev hne
  have hsize := hK.1.size
  have nwg : ∀ {b : Nat}, (∀ k, ¬ Sh (.cell ⟨b, k, none⟩)) → (b = ev ∨ b < W.heap.size) → ∀ k, ¬ c.Sh (.cell ⟨b, k, none⟩) := by
    intro b h1 h2 k h
    rcases h with h | ⟨x, e, hx⟩
    · exact h1 k h
    · rw [← Loc.cell.inj e] at hx
      simp only at hx
      rcases h2 with h2 | h2 <;> omega
  have hLsum : ∀ m, m ≤ 64 → sumTo m (fun k => (notesT W us L).rk k ((notesT W us L).l0 k)) ≤ m * 1000000 := by
    intro m
    induction m with
    | zero => intro _; exact Nat.le_refl _
    | succ m ih =>
      intro hm
      have h1 := ih (by omega)
      have h2 := hLb m
      have h3 : (notesT W us L).rk m ((notesT W us L).l0 m) = (Sk L m).length - 0 := rfl
      rw [sumTo, h3]
      omega
  refine (run_loops (t := notesT W us L) (c := c) (Sh0 := Sh) (n := us.length) (m0 := ()) (u := .slice (some ⟨eb, 0, none⟩) 0 0) O (fun a ha => ?_) (by omega) ?_ ?_ (tkv := .slice al us.length tcap) (tp := tp) (to' := to') (tcap := tcap) ?_ (fun m w hw k hk => ?_) (nwg ht3 ht4)
    (a := ap) (p := pp) (o := po) (cap := pcap) (ncap := us.length) (ps := ps) ?_ hps (by omega) (fun m w hw j i hj => ?_) (nwg hp3 hp4) rfl S H₅).mono fun m' T' H => ⟨c.Sh, H.mono (fun g w' h => ?_) (fun _ _ h => h)⟩
  · rcases ha with ha | ⟨x, e, hx⟩
    · exact .inl ha
    · rw [Loc.cell.inj e]; exact .inr (by show W.heap.size ≤ x.block; omega)
  · have := hLsum us.length hn
    omega
  · exact trivial
  · rcases ht1 with h | h
    · exact .inl (by rw [← hlen, h]; rfl)
    · exact .inr (by rw [h])
  · obtain ⟨u, hu⟩ : ∃ u, us[k]? = some u := ⟨_, List.getElem?_eq_getElem hk⟩
    have hi : (ifs us)[k]? = some (.iface 72 u) := by simp [ifs, hu]
    obtain ⟨h1, h2⟩ := ht2 k _ hi
    rw [cell_of_block (hw _ h1), h2]
    simp [notesT, slK, hu]
  · rcases hp1 with h | h
    · exact .inl (by simpa [ints] using h)
    · exact .inr h
  · have hi : (ints ps)[j]? = some (.int .i64 (i : Int)) := by simp [ints, hj]
    obtain ⟨h1, h2⟩ := hp2 j _ hi
    rw [cell_of_block (hw _ h1), h2]
  · obtain ⟨u, rfl, hT, hrow, hsz', hl⟩ := h
    refine ⟨W, u, rfl, hP, hQ, ⟨hsz', hT⟩, fun a ha => ?_, hrow⟩
    rcases ha with ha | ⟨x, e, hx⟩
    · obtain ⟨st, sm, hw⟩ := hS a ha
      refine ⟨st, sm, ?_⟩
      unfold Go.ConcR.WgAt at hw ⊢
      rw [hT _ (Array.getElem?_eq_some_iff.1 hw).1]
      exact hw
    · rw [Loc.cell.inj e, hx]; exact hl
end
end
end Go.Proofs.YtggfcdhkgldbfaaDoor
