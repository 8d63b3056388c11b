/-
  PARTS of a claim, merged by segs.py: NwOwn, NwRun, NwNot, NwC3.
-/
import Derived.Test.YtggfcdhkgldbfaaN31
import Derived.Test.YtggfcdhkgldbfaaN27
import Derived.Test.YtggfcdhkgldbfaaN30
import Derived.Test.YtggfcdhkgldbfaaN25
import Derived.Test.YtggfcdhkgldbfaaN26
import Derived.Test.YtggfcdhkgldbfaaN29
namespace Go.Proofs.Ytggfcdhkgldbfaa
set_option linter.unusedSimpArgs false
set_option linter.unusedVariables false

/-! ### NwOwn -/
section
set_option linter.unusedSimpArgs false
open Go Go.Conc Go.RowKit Go.ConcR.Gen Cw

theorem own_vrow {w : World} {base : Nat} {e : TypeId} {r : Value} {n : Nat} {xs : List Value} (h : w.ownsRow base e 1 r n xs) : ∃ a c, r = .slice a xs.length c ∧ VRow w a xs ∧ xs.length = n := by
  have hl : xs.length = n := by have := h.1; omega
  rcases h.2 with ⟨rfl, hn⟩ | ⟨g, cap, cur, rfl, _, hg, hc1, _, hc2, ht⟩
  · have : xs = [] := List.eq_nil_of_length_eq_zero (by omega)
    subst this
    exact ⟨none, 0, rfl, .inl rfl, hl⟩
  · refine ⟨some ⟨g, 0, none⟩, cap, by rw [hl], .inr ⟨g, 0, rfl, fun k u hk => ?_⟩, hl⟩
    rw [← ht] at hk
    have hlt := (List.getElem?_eq_some_iff.1 hk).1
    rw [List.getElem?_take] at hk
    split at hk
    · simp only [Nat.zero_add, World.cell?, hg]
      simpa using hk
    · cases hk
theorem evCells_at : ∀ (E : List (Int × ByteArray)) (k : Nat) (x : Int × ByteArray), E[k]? = some x → (evCells E)[k * 2]? = some (.int .i64 x.1) ∧ (evCells E)[k * 2 + 1]? = some (.string x.2)
  | [], k, x, h => by simp at h
  | (i, s) :: r, 0, x, h => by
    simp at h
    subst h
    simp [evCells]
  | (i, s) :: r, k + 1, x, h => by
    have := evCells_at r k x (by simpa using h)
    rw [show (k + 1) * 2 = k * 2 + 1 + 1 by omega]
    simpa [evCells] using this
theorem evCells_len : ∀ (E : List (Int × ByteArray)), (evCells E).length = E.length * 2
  | [] => rfl
  | (i, s) :: r => by simp [evCells, evCells_len r]; omega
theorem own_evrow {w : World} {base : Nat} {e : TypeId} {r : Value} {E : List (Int × ByteArray)} (h : w.ownsRow base e 2 r E.length (evCells E)) : ∃ a c, r = .slice a E.length c ∧ EvRow w a E := by
  rcases h.2 with ⟨rfl, hn⟩ | ⟨g, cap, cur, rfl, _, hg, hc1, _, hc2, ht⟩
  · have : E = [] := List.eq_nil_of_length_eq_zero hn
    subst this
    exact ⟨none, 0, rfl, .inl rfl⟩
  · refine ⟨some ⟨g, 0, none⟩, cap, rfl, .inr ⟨g, 0, rfl, fun k x hk => ?_⟩⟩
    obtain ⟨h1, h2⟩ := evCells_at E k x hk
    have key : ∀ (j : Nat) (v : Value), (evCells E)[j]? = some v → w.cell? ⟨g, j, none⟩ = some v := by
      intro j v hv
      rw [← ht, List.getElem?_take] at hv
      split at hv
      · simp only [World.cell?, hg]
        simpa using hv
      · cases hv
    rw [Nat.zero_add]
    exact ⟨key _ _ h1, key _ _ h2⟩
end

/-! ### NwRun -/
section
set_option linter.unusedSimpArgs false
open Go Go.Conc Go.RowKit Go.ConcR.Gen Cw
open Go.ConcN (sumTo upd upd_same upd_ne sumTo_upd sumTo_congr le_sumTo WgLive)

/-- At the making of the group. -/
noncomputable def ops9 : Array Oper := opsOf (lf (rt (rt (rt (rt (rt (rt bodyM)))))))
set_option maxRecDepth 100000 in
theorem g_group {mn : Bool} (T : Array Value) (cs : List Frame) (w : World) : stepG Try.prog mn (G (fRun T (.inRegion ops9 [0] :: .code cd7 :: [])) cs) w = .go (G (fRun (T.setIfInBounds 8 (pb w.heap.size)) (.inRegion ops9 [] :: .code cd7 :: [])) cs) (w.alloc (Go.ConcR.wgBlock link.tWg 0 0)) #[] := by
  obtain ⟨ps, ho⟩ : ∃ ps, ops9[0]? = some { dst := some 8, op := .alloc 66, type := 0, pos := ps, after := #[], guard := none } := by
    refine ⟨((ops9[0]?).map (fun o => o.pos)).getD "", ?_⟩
    simp only [ops9, bodyM, inner, rt, lf, opsOf, Try.f10, Option.getD_some]
    rfl
  have hr : (execOp (⟨T, []⟩ : Act).eval { dst := some 8, op := .alloc 66, type := 0, pos := ps, after := #[], guard := none }).run Try.prog w = .ok (.value (pb w.heap.size)) (w.alloc (Go.ConcR.wgBlock link.tWg 0 0)) := by
    simp [execOp, go_sem]
    rfl
  refine (stepG_value ho rfl (by k_ne) hr).trans ?_
  rw [listed_nil (by simp [execOp, go_sem])]
  rfl

set_option maxRecDepth 100000 in
/-- Behind it, to the head of the spawn loop. -/
theorem r_begin4 {X : Cx} {V : Nat → Prop} {Q : World → Prop} {mn : Bool} (hrl : ∀ w w', Q w → Ext V w w' → Q w') {ps wk : Value} {al : Option Addr} {n tcap tb ev wg : Nat} (hc : ∀ w, Q w → w.cell? ⟨tb, 0, none⟩ = some (.slice al n tcap)) (hsh : ¬ X.Sh (.cell ⟨tb, 0, none⟩)) (cs : List Frame) (w : World) (hF : Q w) (T : Array Value) (hT : T.size = 79) (h0 : T[0]? = some ps) (h3 : T[3]? = some (pb tb)) (h6 : T[6]? = some (pb ev)) (h7 : T[7]? = some wk) (h8 : T[8]? = some (pb wg)) :
    Goes Try.prog mn (Ext V) (HDq X) (fun g w => Head1 ps wk (.slice al n tcap) n 0 wg ev cs g ∧ Q w) 20 (G (fRun T (.inRegion ops9 [] :: .code cd7 :: [])) cs) w := by
  obtain ⟨v0, v1, v2, v3, v4, v5, v6, v7, v8, v9, v10, v11, v12, v13, v14, v15, v16, v17, v18, v19, v20, v21, v22, v23, v24, v25, v26, v27, v28, v29, v30, v31, v32, v33, v34, v35, v36, v37, v38, v39, v40, v41, v42, v43, v44, v45, v46, v47, v48, v49, v50, v51, v52, v53, v54, v55, v56, v57, v58, v59, v60, v61, v62, v63, v64, v65, v66, v67, v68, v69, v70, v71, v72, v73, v74, v75, v76, v77, v78, rfl⟩ := array79 T hT
  simp only [List.getElem?_toArray, List.getElem?_cons_zero, List.getElem?_cons_succ, Option.some.injEq] at h0 h3 h6 h7 h8
  subst h0
  subst h3
  subst h6
  subst h7
  subst h8
  simp only [fRun, ops9, cd7, rnd1, cd8, bodyM, inner, rt, lf, opsOf, Try.f10, Option.getD_some]
  refine Goes.step rfl (fun w hr => ?_)
  replace hF := (hrl _ _) hF hr
  clear hr
  rw [stepG_region_end]
  simp only [goes_go]
  refine ⟨hdq_idle _ _, ?_⟩
  refine Goes.step rfl (fun w hr => ?_)
  replace hF := (hrl _ _) hF hr
  clear hr
  rw [stepG_seq]
  simp only [goes_go]
  refine ⟨hdq_idle _ _, ?_⟩
  refine Goes.step rfl (fun w hr => ?_)
  replace hF := (hrl _ _) hF hr
  clear hr
  rw [stepG_seq]
  simp only [goes_go]
  refine ⟨hdq_idle _ _, ?_⟩
  refine Goes.step rfl (fun w hr => ?_)
  replace hF := (hrl _ _) hF hr
  clear hr
  rw [stepG_region]
  simp only [goes_go, List.size_toArray, List.length_cons, List.length_nil, Nat.reduceAdd, Nat.zero_add, List.range, List.range.loop]
  refine ⟨hdq_idle _ _, ?_⟩
  refine Goes.step rfl (fun w hr => ?_)
  replace hF := (hrl _ _) hF hr
  clear hr
  have hc := hc w hF
  refine goes_oper_k rfl rfl (by k_ne) (fun K hK => ?_)
  go_simp
  refine hK _ _ ⟨?_, ?_⟩
  · refine hdq_read (fun e he => ?_)
    have hm := mem_listed he
    simp [go_sem, *] at hm
    exact ⟨_, hm, block_of_cell hc, hsh⟩
  clear hK K hc
  try walk_nrm
  refine Goes.step rfl (fun w hr => ?_)
  replace hF := (hrl _ _) hF hr
  clear hr
  refine goes_oper_k rfl rfl (by k_ne) (fun K hK => ?_)
  go_simp
  refine hK _ _ ⟨?_, ?_⟩
  · rw [listed_nil (by simp [go_sem])]; exact hdq_idle _ _
  clear hK K
  try walk_nrm
  refine Goes.step rfl (fun w hr => ?_)
  replace hF := (hrl _ _) hF hr
  clear hr
  refine goes_oper_k rfl rfl (by k_ne) (fun K hK => ?_)
  go_simp
  refine hK _ _ ⟨?_, ?_⟩
  · rw [listed_nil (by simp [go_sem])]; exact hdq_idle _ _
  clear hK K
  try walk_nrm
  refine Goes.step rfl (fun w hr => ?_)
  replace hF := (hrl _ _) hF hr
  clear hr
  rw [stepG_region_end]
  simp only [goes_go]
  refine ⟨hdq_idle _ _, ?_⟩
  refine Goes.step rfl (fun w hr => ?_)
  replace hF := (hrl _ _) hF hr
  clear hr
  rw [stepG_block]
  simp only [goes_go]
  refine ⟨hdq_idle _ _, ?_⟩
  refine Goes.step rfl (fun w hr => ?_)
  replace hF := (hrl _ _) hF hr
  clear hr
  rw [stepG_loop]
  simp only [goes_go]
  refine ⟨hdq_idle _ _, ?_⟩
  refine Goes.stop (fun w hr => ⟨⟨_, ?_, ?_, ?_, ?_, ?_, ?_, ?_, ?_, rfl⟩, hrl _ _ hF hr⟩) <;> rfl
end

/-! ### NwNot -/
section
set_option linter.unusedSimpArgs false
open Go Go.Conc Go.RowKit Go.ConcR.Gen Cw

section
variable (W : World) (FV : Nat → Prop) (us : List Value) (L : List (List ByteArray))
def slK (k : Nat) : Value := us[k]?.getD (.slice none 0 0)
def Sk (k : Nat) : List ByteArray := L[k]?.getD []
def notesT : Tasks where
  Λ := Nat
  M := Unit
  tv := fun k => .iface 44 (slK us k)
  l0 := fun _ => 0
  At := fun r wg ev k j b1 b2 _ g => (j = 0 ∧ g = at1 wg r.bw r.bt ev r.bi r.bs r.cr b1 b2 (.iface 44 (slK us k))) ∨
    (∃ j' s a c x0 x1 x2 x3 xv, j = j' + 1 ∧ slK us k = .slice a (Sk L k).length c ∧ (Sk L k)[j']? = some s ∧ g = atR r.bs r.cr r.cp b1 b2 ev r.bi s ((base 68).at (actN a (Sk L k).length c (yldF b1 b2) j' s x0 x1 x2 x3) (.inRegion opsN [2] :: todoN) ::
      [frR ev r.bi r.bs r.cr b1 b2 (.iface 44 (slK us k)) xv, fr3 wg r.bw r.bt ev r.bi r.bs (.iface 44 (slK us k)), bot]))
  Tm := fun _ w => ∀ b, b < W.heap.size → ¬ FV b → w.heap[b]? = W.heap[b]?
  next := fun k j m => match (Sk L k)[j]? with
    | some s => (m, some (s, j + 1))
    | none => (m, none)
  rk := fun k j => (Sk L k).length - j
  Inv := fun _ _ _ _ => True
end
section
variable {W : World} {FV : Nat → Prop} {us : List Value} {L : List (List ByteArray)}
theorem nts_old (hnv : ∀ a v, W.cell? a = some v → notWg v = true → ¬ FV a.block) {a : Option Addr} {S : List ByteArray} (h : Nts a S W) {w : World} (hw : ∀ b, b < W.heap.size → ¬ FV b → w.heap[b]? = W.heap[b]?) : Nts a S w := by
  rcases h with h | ⟨p, o, ha, hc⟩
  · exact .inl h
  · exact .inr ⟨p, o, ha, fun k s hk => by rw [cell_of_block (hw _ (block_of_cell (hc k s hk)) (hnv _ _ (hc k s hk) rfl))]; exact hc k s hk⟩
theorem wg_no {ty : TypeId} {b x : Nat} {st sm : Int} {v : Value} (hw : Go.ConcR.WgAt ty b W st sm) (hc : W.cell? ⟨b, x, none⟩ = some v) (hv : notWg v = true) : False := by
  unfold Go.ConcR.WgAt Go.ConcR.wgBlock at hw
  unfold World.cell? at hc
  simp only [hw] at hc
  rcases x with _ | _ | x
  · simp at hc; subst hc; cases hv
  · simp at hc; subst hc; cases hv
  · simp at hc
set_option maxHeartbeats 1000000 in
/-- From the loop's head to the end of the turn. -/
theorem n_head {Sh0 : Loc → Prop} (hS0 : ∀ (p : Nat) (a : Addr) (v : Value), W.cell? a = some v → notWg v = true → a.block = p → ∀ i, ¬ Sh0 (.cell ⟨p, i, none⟩)) (hnv : ∀ a v, W.cell? a = some v → notWg v = true → ¬ FV a.block) {X : Cx} {V : Nat → Prop} {B : Nat} {r : Wk} {wg ev k b1 b2 : Nat} {E : List (Int × ByteArray)} {Wr : World → Prop} {ex : Addr → Value → Prop} {a : Option Addr} {c : Nat} (hsl : slK us k = .slice a (Sk L k).length c) (hnt : Nts a (Sk L k) W) (hn63 : (Sk L k).length < 9223372036854775807)
    (fx : ∀ m : Unit, Fx X V B (LeanX r ev b1 b2 (.iface 44 (slK us k)) k ex) ev (fun w => Wr w ∧ (notesT W FV us L).Tm m w)) (hsh : ∀ a, X.Sh (.cell a) → Sh0 (.cell a) ∨ W.heap.size ≤ a.block) (hE : (E.length + 1) * 1024 ≤ 140737488355328) (xv : Value) (j : Nat) (hj : j ≤ (Sk L k).length) :
    ∃ N, ∀ y0 y1 y2 y3 y4 y5 y6 y7 w, WB X B (LeanX r ev b1 b2 (.iface 44 (slK us k)) k ex) (fun w => Wr w ∧ (notesT W FV us L).Tm () w) w ∧ (∃ u, Evs X V ev E u w) →
      Goes Try.prog false (Ext V) (HDq X) ((notesT W FV us L).Turned X V B r wg ev k j () b1 b2 E Wr ex) N (headN a (Sk L k).length c (yldF b1 b2) j y0 y1 y2 y3 y4 y5 y6 y7 [frR ev r.bi r.bs r.cr b1 b2 (.iface 44 (slK us k)) xv, fr3 wg r.bw r.bt ev r.bi r.bs (.iface 44 (slK us k)), bot]) w := by
  have hq : ∀ w w', Ext V w w' → (∃ u, Evs X V ev E u w) → ∃ u, Evs X V ev E u w' := fun w w' r h => h.imp fun u hu => evs_rl (fx ()) w w' r hu
  have hT : ∀ a b c, Ext V a b → Ext V b c → Ext V a c := fun _ _ _ h r => h.trans r
  by_cases hjn : j < (Sk L k).length
  · obtain ⟨s, hs⟩ : ∃ s, (Sk L k)[j]? = some s := ⟨_, List.getElem?_eq_getElem hjn⟩
    have hSh : ∀ p o, a = some ⟨p, o, none⟩ → ∀ k, ¬ X.Sh (.cell ⟨p, k, none⟩) := by
      intro p o ha i hx
      rcases hnt with h | ⟨p', o', ha', hc⟩
      · rw [h] at hjn; simp at hjn
      · rw [ha] at ha'
        obtain ⟨rfl, rfl⟩ : p = p' ∧ o = o' := by cases ha'; exact ⟨rfl, rfl⟩
        have hcell := hc j s hs
        rcases hsh _ hx with h | h
        · exact hS0 p _ _ hcell rfl rfl i h
        · have := block_of_cell hcell
          simp only at h this
          omega
    refine ⟨30 + 60, fun y0 y1 y2 y3 y4 y5 y6 y7 w hF => ?_⟩
    refine goes_then hT (S := fun g w => (∃ x0 x1 x2 x3, g = G ((base 41).at ⟨#[.string s, pb b2, pb b1, undef, undef, undef, undef, undef, undef, undef, undef, undef, undef, undef, undef, undef], []⟩ [.code bodyY])
      ((base 68).at (actN a (Sk L k).length c (yldF b1 b2) j s x0 x1 x2 x3) (.inRegion opsN [2] :: todoN) :: [frR ev r.bi r.bs r.cr b1 b2 (.iface 44 (slK us k)) xv, fr3 wg r.bw r.bt ev r.bi r.bs (.iface 44 (slK us k)), bot])) ∧ WB X B (LeanX r ev b1 b2 (.iface 44 (slK us k)) k ex) (fun w => Wr w ∧ (notesT W FV us L).Tm () w) w ∧ ∃ u, Evs X V ev E u w) (fun g w h => ?_) (Ext.refl V w)
      (n_yield (fx ()) hq (S := Sk L k) (fun w h => nts_old hnv hnt h.2) hSh b1 b2 j s hs y0 y1 y2 y3 y4 y5 y6 y7 _ w hF) (fun a => Ext.refl V a)
    obtain ⟨⟨x0, x1, x2, x3, rfl⟩, hW, u, hu⟩ := h
    refine goes_imp (fun _ _ x => x) (fun _ _ _ x => x) (fun g w h => ?_) (y_walk (fun _ _ h => .inl h) (fx ()) s hE _ w ⟨hW, hu⟩)
    obtain ⟨rfl, h2, u', h3⟩ := h
    exact .inl ⟨(), s, j + 1, _, u', ex, by simp only [notesT, hs], rfl, .inr ⟨j, s, a, c, x0, x1, x2, x3, xv, rfl, hsl, hs, rfl⟩, h2, fun a v h => .inl h, h3⟩
  · obtain rfl : j = (Sk L k).length := by omega
    have hnone : (Sk L k)[(Sk L k).length]? = none := List.getElem?_eq_none (Nat.le_refl _)
    refine ⟨20 + 9, fun y0 y1 y2 y3 y4 y5 y6 y7 w hF => ?_⟩
    refine n_end hT ev r.bi r.bs r.cr b1 b2 (.iface 44 (slK us k)) xv a (Sk L k).length c (yldF b1 b2) y0 y1 y2 y3 y4 y5 y6 y7 _ w ?_
    refine goes_imp (fun _ _ x => x) (fun _ _ _ x => x) (fun g w h => ?_) (x_walk (fun _ _ h => .inl h) (fx ()) hq xv _ w hF)
    obtain ⟨rfl, h2, u, h3⟩ := h
    exact .inr ⟨(), xv, u, by simp only [notesT, hnone], rfl, h2, h3⟩
/-- THE NOTES ARE SUCH TASKS. -/
theorem notes_ok : TasksOk (notesT W FV us L) W.heap.size FV where
  old := fun _ w w' h hw b hb hv => (h b hb hv).trans (hw b hb hv)
  tvi := fun k => ⟨_, _, rfl⟩
  birth := fun r wg ev k b1 b2 => .inl ⟨rfl, rfl⟩
  rk := fun k (l : Nat) m m' s (l' : Nat) h => by
    change (match (Sk L k)[l]? with | some s => (m, some (s, l + 1)) | none => (m, none)) = (m', some (s, l')) at h
    change (Sk L k).length - l' < (Sk L k).length - l
    cases hs : (Sk L k)[l]? with
    | none => rw [hs] at h; simp at h
    | some x =>
      rw [hs] at h
      simp at h
      obtain ⟨_, _, rfl⟩ := h
      have := (List.getElem?_eq_some_iff.1 hs).1
      omega
  inv := fun _ _ _ => trivial
/-- .. whose turns are walks. -/
theorem notes_walk {Sh0 : Loc → Prop} (hS0 : ∀ (p : Nat) (a : Addr) (v : Value), W.cell? a = some v → notWg v = true → a.block = p → ∀ i, ¬ Sh0 (.cell ⟨p, i, none⟩)) (hnv : ∀ a v, W.cell? a = some v → notWg v = true → ¬ FV a.block) (k : Nat) (hrow : ∃ a c, slK us k = .slice a (Sk L k).length c ∧ Nts a (Sk L k) W ∧ (Sk L k).length < 9223372036854775807) : (notesT W FV us L).WalkOk W.heap.size Sh0 k :=
  fun X V B r wg ev l m b1 b2 E u xv Wr ex w g _ hAt fx hsh _ _ hE hF => by
    obtain ⟨a, c, hsl, hnt, hn63⟩ := hrow
    have hT : ∀ a b c, Ext V a b → Ext V b c → Ext V a c := fun _ _ _ h r => h.trans r
    rcases hAt with ⟨rfl, rfl⟩ | ⟨j', s, a', c', x0, x1, x2, x3, xv', rfl, hsl', hs, rfl⟩
    · obtain ⟨N, hN⟩ := n_head (wg := wg) hS0 hnv hsl hnt hn63 fx hsh hE xv 0 (Nat.zero_le _)
      refine ⟨N + 13, ?_⟩
      show Goes _ _ _ _ _ _ (Go.Conc.served (at1 wg r.bw r.bt ev r.bi r.bs r.cr b1 b2 (.iface 44 (slK us k))) xv) w
      have hh := fun y0 y1 y2 y3 y4 y5 y6 y7 => hN y0 y1 y2 y3 y4 y5 y6 y7 w ⟨hF.1, u, hF.2⟩
      rw [hsl] at hh ⊢
      exact n_begin hT wg r.bw r.bt ev r.bi r.bs r.cr b1 b2 a (Sk L k).length c xv w hh
    · obtain ⟨rfl, rfl⟩ : a = a' ∧ c = c' := by rw [hsl] at hsl'; cases hsl'; exact ⟨rfl, rfl⟩
      have hlt := (List.getElem?_eq_some_iff.1 hs).1
      obtain ⟨N, hN⟩ := n_head (wg := wg) hS0 hnv hsl hnt hn63 fx hsh hE xv' (j' + 1) (by omega)
      refine ⟨N + 7 + 3, ?_⟩
      refine y_on hT r.bs r.cr r.cp b1 b2 ev r.bi s xv _ w ?_
      exact n_next hT a (Sk L k).length c hn63 (yldF b1 b2) j' hlt s x0 x1 x2 x3 _ w fun y0 y1 y2 y3 y4 y5 y6 y7 => hN y0 y1 y2 y3 y4 y5 y6 y7 w ⟨hF.1, u, hF.2⟩
end
end

/-! ### NwC3 -/
section
set_option linter.unusedSimpArgs false
open Go Go.Conc Go.RowKit Go.ConcR.Gen Cw

section
variable {Sh : Loc → Prop} {W w w' : World} {main : Bool}
/-- One operation of such a region, what follows behind a variable. -/
theorem opC_k {P : Program} {R : World → World → Prop} {D : World → World → Array Event → Prop} {fn : FuncId} {ops : Array Oper} {i : Nat} {o : Oper} {a : Act} {Kn : Act → World → Prop} (ho : ops[i]? = some o) (hw : Region.wanted o (yielded ops a.tmps) = true)
    (h : ∀ w₁, R w w₁ → ∀ K : Act → World → Prop, (∀ a' w', D w₁ w' (listed P fn a o w₁) ∧ Kn a' w' → K a' w') → uponK o a K ((execOp a.eval o).run P w₁)) : OpC P R D fn ops i Kn a w := by
  unfold OpC
  simp only [ho, hw, if_true]
  exact fun w₁ h₁ => h w₁ h₁ _ fun _ _ x => x
theorem opC_append {P : Program} (hS : ShOk Sh W) {fn : FuncId} {a : Act} {ops : Array Oper} {i : Nat} {o : Oper} {Kn : Act → World → Prop}
    (ho : ops[i]? = some o) (hw : Region.wanted o (yielded ops a.tmps) = true) (s x : Operand) (t : TypeId) (hop : o.op = .call { callee := .builtin .append, args := #[s, x], argTypes := #[t, t] })
    {e : TypeId} {info : TypeInfo} {z : Value} {size bytes : Nat} (ht : P.underlying t = some (.slice e)) (hi : P.info? e = some info) (hz : info.zero = some z) (hsize : info.size = size) (hby : info.bytes = bytes) (hzs : z.cells.size = size) (hsz : 0 < size)
    {v : Value} {n : Nat} {xs : List Value} (hs : a.eval s = v) {ad : Addr} {m c : Nat} {news : List Value} (hx : a.eval x = .slice (some ad) m c) (hm : 0 < m) (hl : news.length = m * size) (h1 : ∀ u ∈ news, u.oneCell' = true) (h63 : n + m ≤ maxLen) (hbytes : (n + m) * bytes ≤ 140737488355328)
    (hF : Ext Vn W w ∧ w.ownsRow W.heap.size e size v n xs) (hnews : ∀ j u, news[j]? = some u → w.cell? (ad.add j) = some u) (had : W.heap.size ≤ ad.block)
    (hnext : ∀ v' w₁ w', Ext Vn w w₁ → w₁.grownBy w' v.ownBlock → Ext Vn W w' ∧ w'.ownsRow W.heap.size e size v' (n + m) (xs ++ news) → Kn (a.put o.dst v') w') : OpC P (Ext Vn) (HDq (Cx0 Sh)) fn ops i Kn a w := by
  unfold OpC
  simp only [ho, hw, if_true]
  intro w₁ hR
  have hE := hF.1.trans hR
  have hown := ownsRow_ext hF.2 hR fun _ _ => id
  replace hnews : ∀ j u, news[j]? = some u → w₁.cell? (ad.add j) = some u := fun j u h => by rw [cell_of_block (hR.same _ (block_of_cell (hnews j u h)) id)]; exact hnews j u h
  have hlad : ad.block < w₁.heap.size := by
    have h0 : 0 < news.length := by rw [hl]; exact Nat.mul_pos hm hsz
    obtain ⟨u, hu⟩ : ∃ u, news[0]? = some u := ⟨_, List.getElem?_eq_getElem h0⟩
    have := block_of_cell (hnews 0 u hu)
    simpa [Addr.add] using this
  obtain ⟨v', w', hr, ho', hg, _⟩ := run_append_own w₁ W.heap.size t o.type e info z size bytes ht hi hz hsize hby hzs hsz v n xs hown ad m c news hl hnews h1 h63 hbytes hE.size
  rw [run_append_op s x t hop hs hx hr, uponK_value]
  have F := floor0 hS
  have hrow : ∀ g, v.ownBlock = some g → W.heap.size ≤ g := fun g hg' => (hown.lt g hg').1
  refine ⟨hdq_grown F hE.size hg (fun g hg' => ⟨F.ok (hrow g hg'), nobox g⟩) fun ev hev => ?_, hnext v' w₁ w' hR hg ⟨ext_grown hE hg hrow, ho'⟩⟩
  have hm' := mem_listed hev
  rw [events_append_op s x t hop hs hx] at hm'
  rcases events_append_where w₁ W.heap.size t o.type e info z size bytes ht hi hz hsize hby v n xs hown ad m c news hl hnews h1 h63 hbytes ev hm' with ⟨a', h2, h3⟩ | ⟨mk, rfl, hmk⟩
  · refine .inl ⟨a', h2, ?_⟩
    rcases h3 with ⟨h4, h5⟩ | h5
    · exact ⟨by rw [h5]; exact Nat.lt_of_lt_of_le hlad hg.size, (F.ok had).sh _ h5, fun e => by rw [h4] at e; cases e⟩
    · have hlt := (hown.lt _ h5.symm).2
      exact ⟨Nat.lt_of_lt_of_le hlt hg.size, (F.ok (hrow _ h5.symm)).sh _ rfl, fun _ hp => hp.elim (fun h => h) fun x => nobox _ x.2.2⟩
  · exact .inr (by rw [show mk = .noRoom from hmk])

/-- The state of the document's Run. -/
structure RF (W : World) (ab : Nat) (A : List Nat) (u : Value) (E : List (Int × ByteArray)) (w : World) : Prop where
  ext : Ext Vn W w
  lo : W.heap.size ≤ ab
  at_ : w.heap[ab]? = some (.cells (ints A).toArray 3 (0, 0))
  row : w.ownsRow W.heap.size 41 2 u E.length (evCells E)
variable {ab : Nat} {A : List Nat} {u : Value} {E : List (Int × ByteArray)}
theorem RF.rl (h : RF W ab A u E w) (r : Ext Vn w w') : RF W ab A u E w' :=
  ⟨h.ext.trans r, h.lo, (r.same _ (Array.getElem?_eq_some_iff.1 h.at_).1 id).trans h.at_, ownsRow_ext h.row r fun _ _ => id⟩
theorem RF.cell (h : RF W ab A u E w) {k x : Nat} (hk : A[k]? = some x) : w.cell? ⟨ab, k, none⟩ = some (.int .i64 x) := by
  simp [World.cell?, h.at_, ints, hk]
theorem RF.unfrozen (h : RF W ab A u E w) (k : Nat) : w.frozen? ⟨ab, k, none⟩ = false := by
  simp [World.frozen?, h.at_]
theorem RF.own_ne (h : RF W ab A u E w) {g : Nat} (hg : u.ownBlock = some g) : g ≠ ab := by
  rintro rfl
  rcases h.row.2 with ⟨rfl, _⟩ | ⟨g', cap, cur, rfl, _, hgg, _⟩
  · simp [Value.ownBlock] at hg
  · simp only [Value.ownBlock, Option.some.injEq] at hg
    subst hg
    rw [h.at_] at hgg
    simp at hgg
theorem RF.set (h : RF W ab A u E w) (k x : Nat) : RF W ab (A.set k x) u E (w.setCell ⟨ab, k, none⟩ (.int .i64 x)) := by
  have hs := fun {b : Nat} (hb : b ≠ ab) => heap_setCell_ne w ⟨ab, k, none⟩ (.int .i64 x) hb
  have hl := h.lo
  refine ⟨⟨by rw [size_setCell']; exact h.ext.size, fun b hb _ => (hs (by omega)).trans (h.ext.same b hb id), h.ext.tape, h.ext.os, h.ext.output⟩, h.lo, ?_, ⟨h.row.1, ?_⟩⟩
  · simp only [World.setCell, Array.getElem?_modify, if_true, h.at_, Option.map_some]
    congr 2
    simp [ints, List.map_set]
  · rcases h.row.2 with hn | ⟨g, cap, cur, rfl, hb, hgg, rest⟩
    · exact .inl hn
    · exact .inr ⟨g, cap, cur, rfl, hb, (hs (h.own_ne rfl)).trans hgg, rest⟩
theorem RF.alloc (h : RF W ab A u E w) (o : Obj) : RF W ab A u E (w.alloc o) := h.rl (Ext.alloc Vn w o)
theorem RF.grown (h : RF W ab A u E w) {w₁ : World} {v' : Value} {E' : List (Int × ByteArray)} (r : Ext Vn w w₁) (hg : w₁.grownBy w' u.ownBlock) (hE : Ext Vn W w' ∧ w'.ownsRow W.heap.size 41 2 v' E'.length (evCells E')) : RF W ab A v' E' w' := by
  have h₁ := h.rl r
  refine ⟨hE.1, h.lo, ?_, hE.2⟩
  rw [hg.block ab (Array.getElem?_eq_some_iff.1 h₁.at_).1 fun e => h.own_ne e.symm rfl]
  exact h₁.at_
theorem reInfo : ∃ it, Try.prog.info? 41 = some it ∧ it.zero = some (.agg #[.int .i64 0, .string .empty]) ∧ it.size = 2 ∧ it.bytes = 24 := by
  have h : (Try.prog.info? 41).map (fun i => (i.zero, i.size, i.bytes)) = some (some (.agg #[.int .i64 0, .string .empty]), 2, 24) := by kernel_rfl
  obtain ⟨i, hi, hb⟩ := Option.map_eq_some_iff.1 h
  simp at hb
  exact ⟨i, hi, hb⟩
theorem bldR (i : Int) (s : ByteArray) (w : World) : (Instr.build 41 #[(0, .int .i64 i), (1, .string s)]).run Try.prog w = .ok (.agg #[.int .i64 i, .string s]) w := run_build w _ _ _ (by kernel_rfl)
theorem bldRE (i : Int) (s : ByteArray) (w : World) (es : Array Event) : (Instr.build 41 #[(0, .int .i64 i), (1, .string s)]).events Try.prog w es = es := by
  obtain ⟨it, hit, h1, _⟩ := reInfo
  obtain ⟨i3, h3, g3⟩ := sz_of 3 (n := 1) (by kernel_rfl)
  obtain ⟨i9, h9, g9⟩ := sz_of 9 (n := 1) (by kernel_rfl)
  simp [Instr.build, go_sem, sizeOf, typeInfo, zeroValue, hit, h1, h3, g3, h9, g9]
theorem blsR (i : Int) (s : ByteArray) (w : World) : (Instr.buildSlice 35 1 #[(0, .agg #[.int .i64 i, .string s])]).run Try.prog w = .ok (.slice (some ⟨w.heap.size, 0, none⟩) 1 1) (w.alloc (.cells #[.int .i64 i, .string s] 41)) := by
  obtain ⟨it, hit, h1, h2, _⟩ := reInfo
  refine run_buildSlice w _ _ 1 _ _ it _ (by kernel_rfl) hit h1 (by rw [h2]; omega) (by rw [h2]; omega) ?_
  rw [h2]
  kernel_rfl
theorem blsRE (i : Int) (s : ByteArray) (w : World) (es : Array Event) : (Instr.buildSlice 35 1 #[(0, .agg #[.int .i64 i, .string s])]).events Try.prog w es = es := by
  obtain ⟨it, hit, h1, h2, _⟩ := reInfo
  simp [Instr.buildSlice, go_sem, sizeOf, typeInfo, zeroValue, hit, h1, h2]
end

/-- One step of the document's. -/
def refStep (L : List (List ByteArray)) (s : List Nat × List (Int × ByteArray)) (t : Nat) : List Nat × List (Int × ByteArray) :=
  (s.1.set t (s.1.getD t 0 + 1), match (Sk L t)[s.1.getD t 0]? with
    | some x => s.2 ++ [((t : Int), x)]
    | none => s.2)
/-- One task to its end. -/
def refDrain (L : List (List ByteArray)) (s : List Nat × List (Int × ByteArray)) (t : Nat) : List Nat × List (Int × ByteArray) := itr (fun s => refStep L s t) ((Sk L t).length - s.1.getD t 0) s
def refRun (L : List (List ByteArray)) (ps : List Nat) : List (Int × ByteArray) := ((List.range L.length).foldl (refDrain L) (ps.foldl (refStep L) (List.replicate L.length 0, []))).2
end
end Go.Proofs.Ytggfcdhkgldbfaa
