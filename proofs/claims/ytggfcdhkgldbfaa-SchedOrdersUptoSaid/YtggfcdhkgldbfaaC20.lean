/-
  PARTS of a claim, merged by segs.py: CwY8, CwC0.
-/
import Derived.Test.YtggfcdhkgldbfaaC19
namespace Go.Proofs.Ytggfcdhkgldbfaa
set_option linter.unusedSimpArgs false
set_option linter.unusedVariables false

/-! ### CwY8 -/
section
set_option linter.unusedSimpArgs false
open Go Go.Conc Go.RowKit Go.ConcR.Gen Cw
open Go.ConcN (sumTo upd upd_same upd_ne sumTo_upd sumTo_congr le_sumTo WgLive)

def Rc.to (c : Rc) (ks : List Wk) (B : Nat) : Rc := { c with ks := ks, B₀ := B }
theorem sum_ones (γ n : Nat) : ∀ m, m ≤ n → sumTo (γ + m) (fun x => if γ ≤ x ∧ x < γ + n then 1 else 0) = m
  | 0, _ => by
    have : ∀ m, m ≤ γ → sumTo m (fun x => if γ ≤ x ∧ x < γ + n then 1 else 0) = 0 := by
      intro m
      induction m with
      | zero => intro _; rfl
      | succ m ih => intro h; rw [sumTo, ih (by omega), if_neg (by omega)]
    exact this γ (Nat.le_refl _)
  | m + 1, h => by
    rw [← Nat.add_assoc, sumTo, sum_ones γ n m (by omega), if_pos (by omega)]
section
variable {t : Tasks} {c : Rc} {Sh0 : Loc → Prop} {n : Nat} {m0 : t.M} {u : Value}
theorem spawn_loop [Ref] (O : TasksOk t c.N₀ Sh0) (hn63 : n < 9223372036854775807) (hv : n < 2147483646) {tkv : Value} {tp to' cap ncap : Nat} {psv : Value} {cs : List Frame} (htv : n = 0 ∨ tkv = .slice (some ⟨tp, to', none⟩) n cap) (htk : ∀ m w, t.Tm m w → ∀ k, k < n → w.cell? ⟨tp, to' + k, none⟩ = some (t.tv k)) (hstp : ∀ k, ¬ c.Sh (.cell ⟨tp, k, none⟩)) :
    ∀ (d : Nat) (ks : List Wk) (B : Nat) (m : Machine) (T : Trace), ks.length + d = n → Rs (c.to ks B) → Held Try.prog ((c.to ks B).X False) Vn 0 0 (c.γ + ks.length) (BysS t (c.to ks B)) (fun g w => Head1 psv (.slice (some ⟨c.wb, 0, none⟩) n ncap) tkv n ks.length c.wg c.ev cs g ∧ SW t (c.to ks B) n m0 u w) m T →
      Lands Try.prog m T (fun m' T' => ∃ ks B, ks.length = n ∧ Rs (c.to ks B) ∧ Held Try.prog ((c.to ks B).X False) Vn 0 0 (c.γ + n) (BysS t (c.to ks B)) (fun g w => Head1 psv (.slice (some ⟨c.wb, 0, none⟩) n ncap) tkv n n c.wg c.ev cs g ∧ SW t (c.to ks B) n m0 u w) m' T')
  | 0, ks, B, m, T, hd, S, H => by
    obtain rfl : ks.length = n := by omega
    exact Lands.done ⟨ks, B, rfl, S, H⟩
  | d + 1, ks, B, m, T, hd, S, H => by
    obtain rfl : tkv = .slice (some ⟨tp, to', none⟩) n cap := htv.resolve_left (by omega)
    refine (spawn_round (c := c.to ks B) S O (show ks.length < n by omega) hn63 hv htk hstp H).bind fun m' T' h => ?_
    obtain ⟨r, B₁, S', H'⟩ := h
    refine spawn_loop O hn63 hv htv htk hstp d (ks ++ [r]) B₁ m' T' (by simp; omega) S' ?_
    rw [show (ks ++ [r]).length = ks.length + 1 by simp]
    exact H'
/-- The state at the beginning. -/
def Tasks.s0 (t : Tasks) (m0 : t.M) : Sst t := ⟨fun _ => false, t.l0, m0, []⟩
/-- .. and at the end. -/
def Tasks.fin (t : Tasks) (m0 : t.M) (n : Nat) (ps : List Nat) : Sst t := t.drains (List.range' 0 n) (ps.foldl (fun s k => t.step k s) (t.s0 m0))
theorem fits_widen [Ref] (S : Rs c) (hn : c.ks.length < 2147483647) {K K' : Goroutine → World → Prop} (hK : ∀ g w, K g w → SW t c c.ks.length m0 u w) (hK' : ∀ g w, K g w → K' g w) {m : Machine} {T : Trace}
    (H : Held Try.prog (c.X False) Vn 0 0 (c.γ + c.ks.length) (BysS t c) K m T) : Held Try.prog (c.X True) c.V 0 0 (c.γ + c.ks.length) (Bys t c (t.s0 m0) none) K' m T := by
  obtain ⟨gs, w, sl, q, Rd, B, cn, g, rfl, hgs, hg, hk, hB, C⟩ := H
  have W := hK g w hk
  have one := S.one
  have hsum : sumTo gs.size (fun x => if c.γ ≤ x ∧ x < c.γ + c.ks.length then 1 else 0) = c.ks.length := by rw [hgs]; exact sum_ones c.γ c.ks.length c.ks.length (Nat.le_refl _)
  refine ⟨gs, w, sl, q, Rd, B, fun x => if c.γ ≤ x ∧ x < c.γ + c.ks.length then 1 else 0, g, rfl, hgs, hg, hK' g w hk, ⟨if_neg (by omega), hB.1, fun k r hr _ => ⟨fun _ => ⟨hB.2 k r hr, if_pos ?_⟩, fun h => by cases h⟩⟩, ⟨?_, C.sys⟩⟩
  · have := (List.getElem?_eq_some_iff.1 hr).1
    omega
  · refine C.widen (X' := c.X True) (fun a h => h) rfl rfl rfl (fun a h => h) (fun a ha => ⟨fun _ => (S.st_ne ha).2.2.1, ?_⟩) ?_ (fun _ => S.shw) (fun _ => ⟨?_, fun i hi e => ?_, ?_⟩) (fun i s hi0 e => ?_)
    · obtain ⟨x, hx, e⟩ := ha
      obtain ⟨k, hk⟩ := List.getElem?_of_mem hx
      have a := W.wk k x hk
      rcases e with rfl | rfl | rfl | rfl | rfl
      · exact ⟨_, by simp [World.cell?, a.hbw]; rfl⟩
      · exact ⟨_, by simp [World.cell?, a.hbt]; rfl⟩
      · exact ⟨_, by simp [World.cell?, a.hbi]; rfl⟩
      · exact ⟨_, by simp [World.cell?, a.hbs]; rfl⟩
      · exact ⟨_, by simp [World.cell?, a.hbs]; rfl⟩
    · rintro x ⟨y, hy, e⟩ hv
      have rg := S.rng y hy
      have hv' : x = c.wg := hv
      rcases e with rfl | rfl
      · exact (rg y.cr (by simp [Wk.blocks])).2.2.1 hv'
      · exact (rg y.cp (by simp [Wk.blocks])).2.2.1 hv'
    · rw [hsum]; exact W.wg
    · refine if_neg fun h => ?_
      obtain ⟨k', rfl⟩ : ∃ k', i = c.γ + k' := ⟨i - c.γ, by omega⟩
      obtain ⟨r', hk'⟩ : ∃ r', c.ks[k']? = some r' := ⟨_, List.getElem?_eq_getElem (show k' < c.ks.length by omega)⟩
      rw [hB.2 k' r' hk'] at e; cases e
    · rw [hsum]; exact hn
    · by_cases h1 : i < c.γ ∨ c.γ + c.ks.length ≤ i
      · rw [hB.1 i (by omega) h1] at e; cases e
      · obtain ⟨k', rfl⟩ : ∃ k', i = c.γ + k' := ⟨i - c.γ, by omega⟩
        obtain ⟨r', hk'⟩ : ∃ r', c.ks[k']? = some r' := ⟨_, List.getElem?_eq_getElem (show k' < c.ks.length by omega)⟩
        rw [hB.2 k' r' hk'] at e; cases e
theorem qm_of_sw (S : Rs c) {w : World} (W : SW t c c.ks.length m0 u w) : QM t c (t.s0 m0).en (t.s0 m0).m (t.s0 m0).E w := by
  obtain ⟨ws, h1, _, h3, _⟩ := W.wb
  exact ⟨⟨W.wk, ⟨ws, h1, h3⟩, W.tm, W.size⟩, u, W.evc, W.evr, fun g hg => S.ok_of (W.uo g hg).1 (W.uo g hg).2.2.1 (W.uo g hg).2.2.2.2⟩
theorem en_fold (k' : Nat) : ∀ (l : List Nat) (s : Sst t), s.en k' = true → (l.foldl (fun s k => t.step k s) s).en k' = true
  | [], _, h => h
  | k :: l, s, h => en_fold k' l _ (en_step k k' s h)
/-- What a call has done. -/
def Done (t : Tasks) (N₀ wg : Nat) (s : Sst t) (u : Value) (w : World) : Prop := t.Tm s.m w ∧ w.ownsRow N₀ 40 2 u s.E.length (evCells s.E) ∧ N₀ ≤ w.heap.size ∧ WgLive link.tWg wg w
/-- FROM THE HEAD OF THE SPAWN LOOP TO THE RETURN. -/
theorem run_loops [Ref] (O : TasksOk t c.N₀ Sh0) (hS0 : ∀ a, c.Sh (.cell a) → Sh0 (.cell a) ∨ c.N₀ ≤ a.block) (hv : n < 2147483646) (hKb : (sumTo n (fun k => t.rk k (t.l0 k)) + 1) * 1024 ≤ 140737488355328)
    {tkv : Value} {tp to' tcap : Nat} (htv : n = 0 ∨ tkv = .slice (some ⟨tp, to', none⟩) n tcap) (htk : ∀ m w, t.Tm m w → ∀ k, k < n → w.cell? ⟨tp, to' + k, none⟩ = some (t.tv k)) (hstp : ∀ k, ¬ c.Sh (.cell ⟨tp, k, none⟩))
    {a : Option Addr} {p o cap ncap : Nat} {ps : List Nat} (hpv : ps = [] ∨ a = some ⟨p, o, none⟩) (hps : ∀ i ∈ ps, i < n) (hn : ps.length < 9223372036854775807)
    (hpk : ∀ m w, t.Tm m w → ∀ (j i : Nat), ps[j]? = some i → w.cell? ⟨p, o + j, none⟩ = some (.int .i64 i)) (hsp : ∀ i, ¬ c.Sh (.cell ⟨p, i, none⟩))
    (hks : c.ks = []) (S : Rs c) {b₀ : Frame} {a₀ : Act} {ops : Array Oper} {j : Nat} {rest : List Nat} {kk : List Item} {cs : List Frame} {m : Machine} {T : Trace}
    (H : Held Try.prog (c.X False) Vn 0 0 c.γ (BysS t c) (fun g w => Head1 (.slice a ps.length cap) (.slice (some ⟨c.wb, 0, none⟩) n ncap) tkv n 0 c.wg c.ev (b₀.at a₀ (.inRegion ops (j :: rest) :: kk) :: cs) g ∧ SW t c n m0 u w) m T) :
    Lands Try.prog m T (Held Try.prog (Cx0 c.Sh) Vn 0 0 (c.γ + n) Gone (fun g w => ∃ u, g = G (b₀.at (a₀.put ((ops[j]?).bind (·.dst)) (.tuple #[u, .int .i64 0])) (.inRegion ops rest :: kk)) cs ∧ Done t c.N₀ c.wg (t.fin m0 n ps) u w)) := by
  have hc : c = c.to [] c.B₀ := by rw [← hks]; rfl
  have H' : Held Try.prog ((c.to [] c.B₀).X False) Vn 0 0 (c.γ + ([] : List Wk).length) (BysS t (c.to [] c.B₀)) (fun g w => Head1 (.slice a ps.length cap) (.slice (some ⟨c.wb, 0, none⟩) n ncap) tkv n ([] : List Wk).length c.wg c.ev (b₀.at a₀ (.inRegion ops (j :: rest) :: kk) :: cs) g ∧ SW t (c.to [] c.B₀) n m0 u w) m T := by
    rw [← hc]; exact H
  refine (spawn_loop O (by omega) hv htv htk hstp n [] c.B₀ m T (by simp) (hc ▸ S) H').bind fun m₁ T₁ h => ?_
  obtain ⟨ks, B, rfl, S₁, H₁⟩ := h
  have O₁ : TasksOk t (c.to ks B).N₀ Sh0 := O
  have CL : Cl t (c.to ks B) Sh0 (sumTo ks.length (fun k => t.rk k (t.l0 k))) := ⟨S₁, O₁, hS0, hKb, by show ks.length < _; omega⟩
  -- the loop is over
  refine (H₁.walk (K' := fun g w => Head2 (.slice (some ⟨c.wb, 0, none⟩) ks.length ncap) (.slice a ps.length cap) ps.length 0 c.wg c.ev (b₀.at a₀ (.inRegion ops (j :: rest) :: kk) :: cs) g ∧ SW t (c.to ks B) ks.length m0 u w) bysS_stb fun g w hK => ⟨0 + 16, ?_⟩).bind fun m₂ T₂ H₂ => ?_
  · exact h_end (X := (c.to ks B).X False) (R := Ext Vn) (Q := SW t (c.to ks B) ks.length m0 u) (fun w w' h r => h.ext S₁ O₁ r) _ g w hK.2 hK.1 fun g w hg h => Goes.stop fun w' r => ⟨hg, h.ext S₁ O₁ r⟩
  have H₃ : MS t (c.to ks B) (t.s0 m0) (Head2 (.slice (some ⟨c.wb, 0, none⟩) ks.length ncap) (.slice a ps.length cap) ps.length 0 c.wg c.ev (b₀.at a₀ (.inRegion ops (j :: rest) :: kk) :: cs)) m₂ T₂ :=
    fits_widen S₁ (by show ks.length < _; omega) (fun g w h => h.2) (fun g w h => ⟨h.1, qm_of_sw S₁ h.2⟩) H₂
  refine (picks_loop (c := c.to ks B) CL (psv := .slice a ps.length cap) (ncap := ncap) (cap := cap) (hpv.imp id fun e => by rw [e]) hps hn hpk hsp ps.length 0 (by omega) (t.s0 m0) m₂ T₂ (by show 0 + _ ≤ _; rw [Nat.zero_add]; exact Nat.le_refl _) H₃).bind fun m₃ T₃ h => ?_
  obtain ⟨hp, H₄⟩ := h
  rw [List.drop_zero] at hp H₄
  refine (drains_loop (c := c.to ks B) CL ks.length 0 (by show 0 + ks.length = ks.length; omega) _ m₃ T₃ (fun i hi => absurd hi (by omega)) hp H₄).bind fun m₄ T₄ h => ?_
  obtain ⟨hen, H₅⟩ := h
  refine (run_tail (c := c.to ks B) CL hen H₅).mono fun m' T' H => H.mono (fun g w h => ?_) (fun _ _ h => h)
  obtain ⟨u, rfl, hL⟩ := h
  exact ⟨u, rfl, hL.1, hL.2.2.1, Nat.le_trans S₁.lt hL.2.2.2.1, hL.2.2.2.2⟩
end
end

/-! ### CwC0 -/
section
set_option linter.unusedSimpArgs false
open Go Go.Conc Go.RowKit Go.ConcR.Gen Cw

/-- The groups of earlier calls hold nothing but their two counts. -/
def ShOk (Sh : Loc → Prop) (W : World) : Prop := ∀ a, Sh (.cell a) → ∃ st sm, Go.ConcR.WgAt link.tWg a.block W st sm
def notWg : Value → Bool
  | .int .u64 _ => false
  | .int .u32 _ => false
  | _ => true
theorem sh_no {Sh : Loc → Prop} {W : World} (h : ShOk Sh W) {a : Addr} {v : Value} (hc : W.cell? a = some v) (hv : notWg v = true) : ¬ Sh (.cell a) := by
  intro hs
  obtain ⟨st, sm, hw⟩ := h a hs
  unfold Go.ConcR.WgAt Go.ConcR.wgBlock at hw
  unfold World.cell? at hc
  rw [hw] at hc
  obtain ⟨b, o, p⟩ := a
  rcases o with _ | _ | o
  · cases p <;> simp at hc; subst hc; cases hv
  · cases p <;> simp at hc; subst hc; cases hv
  · cases p <;> simp at hc
section
variable {Sh : Loc → Prop} {W w : World} {main : Bool}
abbrev TT (Sh : Loc → Prop) : Terms (Ext Vn) (HDq (Cx0 Sh)) := hdq_terms (Cx0 Sh) Vn
theorem cell_ext {a : Addr} {v : Value} (h : Ext Vn W w) (hc : W.cell? a = some v) : w.cell? a = some v := by
  rw [cell_of_block (h.same _ (block_of_cell hc) id)]; exact hc
/-- A read of what is old. -/
theorem rd_old (hS : ShOk Sh W) (h : Ext Vn W w) {a : Addr} {v : Value} (hc : W.cell? a = some v) (hv : notWg v = true) {es : Array Event} (hes : ∀ e ∈ es, e = ⟨.cell a, false, false⟩) : HDq (Cx0 Sh) w w es :=
  hdq_read fun e he => ⟨a, hes e he, block_of_cell (cell_ext h hc), sh_no hS hc hv⟩
theorem draw_ext (w : World) : Ext Vn w { w with drawn := w.drawn + 1 } := Ext.at Vn w _
theorem lets0 (Sh : Loc → Prop) : LetsDraw (HDq (Cx0 Sh)) := fun w => hdq_draw (Cx0 Sh) w
end

/-- A list of notes in memory; lists of notes. -/
def StrRow (w : World) (v : Value) (S : List ByteArray) : Prop := ∃ a cap, v = .slice a S.length cap ∧ Nts a S w
def StrRows (w : World) (v : Value) (L : List (List ByteArray)) : Prop := ∃ a cap, v = .slice a L.length cap ∧ (L = [] ∨ ∃ p o, a = some ⟨p, o, none⟩ ∧ ∀ (k : Nat) (S : List ByteArray), L[k]? = some S → ∃ u, w.cell? ⟨p, o + k, none⟩ = some u ∧ StrRow w u S)
/-- The number in a slot. -/
def slotN (a : Act) (k : Nat) : Nat := match a.tmps[k]? with
  | some (.int _ i) => i.toNat
  | _ => 0
theorem wpC_absurd {P : Program} {main : Bool} {R : World → World → Prop} {D : World → World → Array Event → Prop} {fn : FuncId} {c : Code} {Q : Exit → Act → World → Prop} {a : Act} {w : World} (h : False) : c.wpC P main R D fn 0 Q a w := h.elim
theorem arr25 (T : Array Value) (h : T.size = 25) : ∃ v0 v1 v2 v3 v4 v5 v6 v7 v8 v9 v10 v11 v12 v13 v14 v15 v16 v17 v18 v19 v20 v21 v22 v23 v24, T = #[v0, v1, v2, v3, v4, v5, v6, v7, v8, v9, v10, v11, v12, v13, v14, v15, v16, v17, v18, v19, v20, v21, v22, v23, v24] := by
  have hl : T.toList.length = 25 := by simpa using h
  obtain ⟨l⟩ := T
  simp only at hl
  obtain _ | ⟨v0, l⟩ := l
  · simp at hl
  obtain _ | ⟨v1, l⟩ := l
  · simp at hl
  obtain _ | ⟨v2, l⟩ := l
  · simp at hl
  obtain _ | ⟨v3, l⟩ := l
  · simp at hl
  obtain _ | ⟨v4, l⟩ := l
  · simp at hl
  obtain _ | ⟨v5, l⟩ := l
  · simp at hl
  obtain _ | ⟨v6, l⟩ := l
  · simp at hl
  obtain _ | ⟨v7, l⟩ := l
  · simp at hl
  obtain _ | ⟨v8, l⟩ := l
  · simp at hl
  obtain _ | ⟨v9, l⟩ := l
  · simp at hl
  obtain _ | ⟨v10, l⟩ := l
  · simp at hl
  obtain _ | ⟨v11, l⟩ := l
  · simp at hl
  obtain _ | ⟨v12, l⟩ := l
  · simp at hl
  obtain _ | ⟨v13, l⟩ := l
  · simp at hl
  obtain _ | ⟨v14, l⟩ := l
  · simp at hl
  obtain _ | ⟨v15, l⟩ := l
  · simp at hl
  obtain _ | ⟨v16, l⟩ := l
  · simp at hl
  obtain _ | ⟨v17, l⟩ := l
  · simp at hl
  obtain _ | ⟨v18, l⟩ := l
  · simp at hl
  obtain _ | ⟨v19, l⟩ := l
  · simp at hl
  obtain _ | ⟨v20, l⟩ := l
  · simp at hl
  obtain _ | ⟨v21, l⟩ := l
  · simp at hl
  obtain _ | ⟨v22, l⟩ := l
  · simp at hl
  obtain _ | ⟨v23, l⟩ := l
  · simp at hl
  obtain _ | ⟨v24, l⟩ := l
  · simp at hl
  obtain _ | ⟨x, l⟩ := l
  · exact ⟨_, _, _, _, _, _, _, _, _, _, _, _, _, _, _, _, _, _, _, _, _, _, _, _, _, rfl⟩
  · simp only [List.length_cons] at hl
    omega
theorem arr19 (T : Array Value) (h : T.size = 19) : ∃ v0 v1 v2 v3 v4 v5 v6 v7 v8 v9 v10 v11 v12 v13 v14 v15 v16 v17 v18, T = #[v0, v1, v2, v3, v4, v5, v6, v7, v8, v9, v10, v11, v12, v13, v14, v15, v16, v17, v18] := by
  have hl : T.toList.length = 19 := by simpa using h
  obtain ⟨l⟩ := T
  simp only at hl
  obtain _ | ⟨v0, l⟩ := l
  · simp at hl
  obtain _ | ⟨v1, l⟩ := l
  · simp at hl
  obtain _ | ⟨v2, l⟩ := l
  · simp at hl
  obtain _ | ⟨v3, l⟩ := l
  · simp at hl
  obtain _ | ⟨v4, l⟩ := l
  · simp at hl
  obtain _ | ⟨v5, l⟩ := l
  · simp at hl
  obtain _ | ⟨v6, l⟩ := l
  · simp at hl
  obtain _ | ⟨v7, l⟩ := l
  · simp at hl
  obtain _ | ⟨v8, l⟩ := l
  · simp at hl
  obtain _ | ⟨v9, l⟩ := l
  · simp at hl
  obtain _ | ⟨v10, l⟩ := l
  · simp at hl
  obtain _ | ⟨v11, l⟩ := l
  · simp at hl
  obtain _ | ⟨v12, l⟩ := l
  · simp at hl
  obtain _ | ⟨v13, l⟩ := l
  · simp at hl
  obtain _ | ⟨v14, l⟩ := l
  · simp at hl
  obtain _ | ⟨v15, l⟩ := l
  · simp at hl
  obtain _ | ⟨v16, l⟩ := l
  · simp at hl
  obtain _ | ⟨v17, l⟩ := l
  · simp at hl
  obtain _ | ⟨v18, l⟩ := l
  · simp at hl
  obtain _ | ⟨x, l⟩ := l
  · exact ⟨_, _, _, _, _, _, _, _, _, _, _, _, _, _, _, _, _, _, _, rfl⟩
  · simp only [List.length_cons] at hl
    omega
theorem arr26 (T : Array Value) (h : T.size = 26) : ∃ v0 v1 v2 v3 v4 v5 v6 v7 v8 v9 v10 v11 v12 v13 v14 v15 v16 v17 v18 v19 v20 v21 v22 v23 v24 v25, T = #[v0, v1, v2, v3, v4, v5, v6, v7, v8, v9, v10, v11, v12, v13, v14, v15, v16, v17, v18, v19, v20, v21, v22, v23, v24, v25] := by
  have hl : T.toList.length = 26 := by simpa using h
  obtain ⟨l⟩ := T
  simp only at hl
  obtain _ | ⟨v0, l⟩ := l
  · simp at hl
  obtain _ | ⟨v1, l⟩ := l
  · simp at hl
  obtain _ | ⟨v2, l⟩ := l
  · simp at hl
  obtain _ | ⟨v3, l⟩ := l
  · simp at hl
  obtain _ | ⟨v4, l⟩ := l
  · simp at hl
  obtain _ | ⟨v5, l⟩ := l
  · simp at hl
  obtain _ | ⟨v6, l⟩ := l
  · simp at hl
  obtain _ | ⟨v7, l⟩ := l
  · simp at hl
  obtain _ | ⟨v8, l⟩ := l
  · simp at hl
  obtain _ | ⟨v9, l⟩ := l
  · simp at hl
  obtain _ | ⟨v10, l⟩ := l
  · simp at hl
  obtain _ | ⟨v11, l⟩ := l
  · simp at hl
  obtain _ | ⟨v12, l⟩ := l
  · simp at hl
  obtain _ | ⟨v13, l⟩ := l
  · simp at hl
  obtain _ | ⟨v14, l⟩ := l
  · simp at hl
  obtain _ | ⟨v15, l⟩ := l
  · simp at hl
  obtain _ | ⟨v16, l⟩ := l
  · simp at hl
  obtain _ | ⟨v17, l⟩ := l
  · simp at hl
  obtain _ | ⟨v18, l⟩ := l
  · simp at hl
  obtain _ | ⟨v19, l⟩ := l
  · simp at hl
  obtain _ | ⟨v20, l⟩ := l
  · simp at hl
  obtain _ | ⟨v21, l⟩ := l
  · simp at hl
  obtain _ | ⟨v22, l⟩ := l
  · simp at hl
  obtain _ | ⟨v23, l⟩ := l
  · simp at hl
  obtain _ | ⟨v24, l⟩ := l
  · simp at hl
  obtain _ | ⟨v25, l⟩ := l
  · simp at hl
  obtain _ | ⟨x, l⟩ := l
  · exact ⟨_, _, _, _, _, _, _, _, _, _, _, _, _, _, _, _, _, _, _, _, _, _, _, _, _, _, rfl⟩
  · simp only [List.length_cons] at hl
    omega
theorem arr92 (T : Array Value) (h : T.size = 92) : ∃ v0 v1 v2 v3 v4 v5 v6 v7 v8 v9 v10 v11 v12 v13 v14 v15 v16 v17 v18 v19 v20 v21 v22 v23 v24 v25 v26 v27 v28 v29 v30 v31 v32 v33 v34 v35 v36 v37 v38 v39 v40 v41 v42 v43 v44 v45 v46 v47 v48 v49 v50 v51 v52 v53 v54 v55 v56 v57 v58 v59 v60 v61 v62 v63 v64 v65 v66 v67 v68 v69 v70 v71 v72 v73 v74 v75 v76 v77 v78 v79 v80 v81 v82 v83 v84 v85 v86 v87 v88 v89 v90 v91, T = #[v0, v1, v2, v3, v4, v5, v6, v7, v8, v9, v10, v11, v12, v13, v14, v15, v16, v17, v18, v19, v20, v21, v22, v23, v24, v25, v26, v27, v28, v29, v30, v31, v32, v33, v34, v35, v36, v37, v38, v39, v40, v41, v42, v43, v44, v45, v46, v47, v48, v49, v50, v51, v52, v53, v54, v55, v56, v57, v58, v59, v60, v61, v62, v63, v64, v65, v66, v67, v68, v69, v70, v71, v72, v73, v74, v75, v76, v77, v78, v79, v80, v81, v82, v83, v84, v85, v86, v87, v88, v89, v90, v91] := by
  have hl : T.toList.length = 92 := by simpa using h
  obtain ⟨l⟩ := T
  simp only at hl
  obtain _ | ⟨v0, l⟩ := l
  · simp at hl
  obtain _ | ⟨v1, l⟩ := l
  · simp at hl
  obtain _ | ⟨v2, l⟩ := l
  · simp at hl
  obtain _ | ⟨v3, l⟩ := l
  · simp at hl
  obtain _ | ⟨v4, l⟩ := l
  · simp at hl
  obtain _ | ⟨v5, l⟩ := l
  · simp at hl
  obtain _ | ⟨v6, l⟩ := l
  · simp at hl
  obtain _ | ⟨v7, l⟩ := l
  · simp at hl
  obtain _ | ⟨v8, l⟩ := l
  · simp at hl
  obtain _ | ⟨v9, l⟩ := l
  · simp at hl
  obtain _ | ⟨v10, l⟩ := l
  · simp at hl
  obtain _ | ⟨v11, l⟩ := l
  · simp at hl
  obtain _ | ⟨v12, l⟩ := l
  · simp at hl
  obtain _ | ⟨v13, l⟩ := l
  · simp at hl
  obtain _ | ⟨v14, l⟩ := l
  · simp at hl
  obtain _ | ⟨v15, l⟩ := l
  · simp at hl
  obtain _ | ⟨v16, l⟩ := l
  · simp at hl
  obtain _ | ⟨v17, l⟩ := l
  · simp at hl
  obtain _ | ⟨v18, l⟩ := l
  · simp at hl
  obtain _ | ⟨v19, l⟩ := l
  · simp at hl
  obtain _ | ⟨v20, l⟩ := l
  · simp at hl
  obtain _ | ⟨v21, l⟩ := l
  · simp at hl
  obtain _ | ⟨v22, l⟩ := l
  · simp at hl
  obtain _ | ⟨v23, l⟩ := l
  · simp at hl
  obtain _ | ⟨v24, l⟩ := l
  · simp at hl
  obtain _ | ⟨v25, l⟩ := l
  · simp at hl
  obtain _ | ⟨v26, l⟩ := l
  · simp at hl
  obtain _ | ⟨v27, l⟩ := l
  · simp at hl
  obtain _ | ⟨v28, l⟩ := l
  · simp at hl
  obtain _ | ⟨v29, l⟩ := l
  · simp at hl
  obtain _ | ⟨v30, l⟩ := l
  · simp at hl
  obtain _ | ⟨v31, l⟩ := l
  · simp at hl
  obtain _ | ⟨v32, l⟩ := l
  · simp at hl
  obtain _ | ⟨v33, l⟩ := l
  · simp at hl
  obtain _ | ⟨v34, l⟩ := l
  · simp at hl
  obtain _ | ⟨v35, l⟩ := l
  · simp at hl
  obtain _ | ⟨v36, l⟩ := l
  · simp at hl
  obtain _ | ⟨v37, l⟩ := l
  · simp at hl
  obtain _ | ⟨v38, l⟩ := l
  · simp at hl
  obtain _ | ⟨v39, l⟩ := l
  · simp at hl
  obtain _ | ⟨v40, l⟩ := l
  · simp at hl
  obtain _ | ⟨v41, l⟩ := l
  · simp at hl
  obtain _ | ⟨v42, l⟩ := l
  · simp at hl
  obtain _ | ⟨v43, l⟩ := l
  · simp at hl
  obtain _ | ⟨v44, l⟩ := l
  · simp at hl
  obtain _ | ⟨v45, l⟩ := l
  · simp at hl
  obtain _ | ⟨v46, l⟩ := l
  · simp at hl
  obtain _ | ⟨v47, l⟩ := l
  · simp at hl
  obtain _ | ⟨v48, l⟩ := l
  · simp at hl
  obtain _ | ⟨v49, l⟩ := l
  · simp at hl
  obtain _ | ⟨v50, l⟩ := l
  · simp at hl
  obtain _ | ⟨v51, l⟩ := l
  · simp at hl
  obtain _ | ⟨v52, l⟩ := l
  · simp at hl
  obtain _ | ⟨v53, l⟩ := l
  · simp at hl
  obtain _ | ⟨v54, l⟩ := l
  · simp at hl
  obtain _ | ⟨v55, l⟩ := l
  · simp at hl
  obtain _ | ⟨v56, l⟩ := l
  · simp at hl
  obtain _ | ⟨v57, l⟩ := l
  · simp at hl
  obtain _ | ⟨v58, l⟩ := l
  · simp at hl
  obtain _ | ⟨v59, l⟩ := l
  · simp at hl
  obtain _ | ⟨v60, l⟩ := l
  · simp at hl
  obtain _ | ⟨v61, l⟩ := l
  · simp at hl
  obtain _ | ⟨v62, l⟩ := l
  · simp at hl
  obtain _ | ⟨v63, l⟩ := l
  · simp at hl
  obtain _ | ⟨v64, l⟩ := l
  · simp at hl
  obtain _ | ⟨v65, l⟩ := l
  · simp at hl
  obtain _ | ⟨v66, l⟩ := l
  · simp at hl
  obtain _ | ⟨v67, l⟩ := l
  · simp at hl
  obtain _ | ⟨v68, l⟩ := l
  · simp at hl
  obtain _ | ⟨v69, l⟩ := l
  · simp at hl
  obtain _ | ⟨v70, l⟩ := l
  · simp at hl
  obtain _ | ⟨v71, l⟩ := l
  · simp at hl
  obtain _ | ⟨v72, l⟩ := l
  · simp at hl
  obtain _ | ⟨v73, l⟩ := l
  · simp at hl
  obtain _ | ⟨v74, l⟩ := l
  · simp at hl
  obtain _ | ⟨v75, l⟩ := l
  · simp at hl
  obtain _ | ⟨v76, l⟩ := l
  · simp at hl
  obtain _ | ⟨v77, l⟩ := l
  · simp at hl
  obtain _ | ⟨v78, l⟩ := l
  · simp at hl
  obtain _ | ⟨v79, l⟩ := l
  · simp at hl
  obtain _ | ⟨v80, l⟩ := l
  · simp at hl
  obtain _ | ⟨v81, l⟩ := l
  · simp at hl
  obtain _ | ⟨v82, l⟩ := l
  · simp at hl
  obtain _ | ⟨v83, l⟩ := l
  · simp at hl
  obtain _ | ⟨v84, l⟩ := l
  · simp at hl
  obtain _ | ⟨v85, l⟩ := l
  · simp at hl
  obtain _ | ⟨v86, l⟩ := l
  · simp at hl
  obtain _ | ⟨v87, l⟩ := l
  · simp at hl
  obtain _ | ⟨v88, l⟩ := l
  · simp at hl
  obtain _ | ⟨v89, l⟩ := l
  · simp at hl
  obtain _ | ⟨v90, l⟩ := l
  · simp at hl
  obtain _ | ⟨v91, l⟩ := l
  · simp at hl
  obtain _ | ⟨x, l⟩ := l
  · exact ⟨_, _, _, _, _, _, _, _, _, _, _, _, _, _, _, _, _, _, _, _, _, _, _, _, _, _, _, _, _, _, _, _, _, _, _, _, _, _, _, _, _, _, _, _, _, _, _, _, _, _, _, _, _, _, _, _, _, _, _, _, _, _, _, _, _, _, _, _, _, _, _, _, _, _, _, _, _, _, _, _, _, _, _, _, _, _, _, _, _, _, _, _, rfl⟩
  · simp only [List.length_cons] at hl
    omega
theorem arr9 (T : Array Value) (h : T.size = 9) : ∃ v0 v1 v2 v3 v4 v5 v6 v7 v8, T = #[v0, v1, v2, v3, v4, v5, v6, v7, v8] := by
  have hl : T.toList.length = 9 := by simpa using h
  obtain ⟨l⟩ := T
  simp only at hl
  obtain _ | ⟨v0, l⟩ := l
  · simp at hl
  obtain _ | ⟨v1, l⟩ := l
  · simp at hl
  obtain _ | ⟨v2, l⟩ := l
  · simp at hl
  obtain _ | ⟨v3, l⟩ := l
  · simp at hl
  obtain _ | ⟨v4, l⟩ := l
  · simp at hl
  obtain _ | ⟨v5, l⟩ := l
  · simp at hl
  obtain _ | ⟨v6, l⟩ := l
  · simp at hl
  obtain _ | ⟨v7, l⟩ := l
  · simp at hl
  obtain _ | ⟨v8, l⟩ := l
  · simp at hl
  obtain _ | ⟨x, l⟩ := l
  · exact ⟨_, _, _, _, _, _, _, _, _, rfl⟩
  · simp only [List.length_cons] at hl
    omega
theorem arr5 (T : Array Value) (h : T.size = 5) : ∃ v0 v1 v2 v3 v4, T = #[v0, v1, v2, v3, v4] := by
  have hl : T.toList.length = 5 := by simpa using h
  obtain ⟨l⟩ := T
  simp only at hl
  obtain _ | ⟨v0, l⟩ := l
  · simp at hl
  obtain _ | ⟨v1, l⟩ := l
  · simp at hl
  obtain _ | ⟨v2, l⟩ := l
  · simp at hl
  obtain _ | ⟨v3, l⟩ := l
  · simp at hl
  obtain _ | ⟨v4, l⟩ := l
  · simp at hl
  obtain _ | ⟨x, l⟩ := l
  · exact ⟨_, _, _, _, _, rfl⟩
  · simp only [List.length_cons] at hl
    omega
theorem arr12 (T : Array Value) (h : T.size = 12) : ∃ v0 v1 v2 v3 v4 v5 v6 v7 v8 v9 v10 v11, T = #[v0, v1, v2, v3, v4, v5, v6, v7, v8, v9, v10, v11] := by
  have hl : T.toList.length = 12 := by simpa using h
  obtain ⟨l⟩ := T
  simp only at hl
  obtain _ | ⟨v0, l⟩ := l
  · simp at hl
  obtain _ | ⟨v1, l⟩ := l
  · simp at hl
  obtain _ | ⟨v2, l⟩ := l
  · simp at hl
  obtain _ | ⟨v3, l⟩ := l
  · simp at hl
  obtain _ | ⟨v4, l⟩ := l
  · simp at hl
  obtain _ | ⟨v5, l⟩ := l
  · simp at hl
  obtain _ | ⟨v6, l⟩ := l
  · simp at hl
  obtain _ | ⟨v7, l⟩ := l
  · simp at hl
  obtain _ | ⟨v8, l⟩ := l
  · simp at hl
  obtain _ | ⟨v9, l⟩ := l
  · simp at hl
  obtain _ | ⟨v10, l⟩ := l
  · simp at hl
  obtain _ | ⟨v11, l⟩ := l
  · simp at hl
  obtain _ | ⟨x, l⟩ := l
  · exact ⟨_, _, _, _, _, _, _, _, _, _, _, _, rfl⟩
  · simp only [List.length_cons] at hl
    omega
theorem arr36 (T : Array Value) (h : T.size = 36) : ∃ v0 v1 v2 v3 v4 v5 v6 v7 v8 v9 v10 v11 v12 v13 v14 v15 v16 v17 v18 v19 v20 v21 v22 v23 v24 v25 v26 v27 v28 v29 v30 v31 v32 v33 v34 v35, T = #[v0, v1, v2, v3, v4, v5, v6, v7, v8, v9, v10, v11, v12, v13, v14, v15, v16, v17, v18, v19, v20, v21, v22, v23, v24, v25, v26, v27, v28, v29, v30, v31, v32, v33, v34, v35] := by
  have hl : T.toList.length = 36 := by simpa using h
  obtain ⟨l⟩ := T
  simp only at hl
  obtain _ | ⟨v0, l⟩ := l
  · simp at hl
  obtain _ | ⟨v1, l⟩ := l
  · simp at hl
  obtain _ | ⟨v2, l⟩ := l
  · simp at hl
  obtain _ | ⟨v3, l⟩ := l
  · simp at hl
  obtain _ | ⟨v4, l⟩ := l
  · simp at hl
  obtain _ | ⟨v5, l⟩ := l
  · simp at hl
  obtain _ | ⟨v6, l⟩ := l
  · simp at hl
  obtain _ | ⟨v7, l⟩ := l
  · simp at hl
  obtain _ | ⟨v8, l⟩ := l
  · simp at hl
  obtain _ | ⟨v9, l⟩ := l
  · simp at hl
  obtain _ | ⟨v10, l⟩ := l
  · simp at hl
  obtain _ | ⟨v11, l⟩ := l
  · simp at hl
  obtain _ | ⟨v12, l⟩ := l
  · simp at hl
  obtain _ | ⟨v13, l⟩ := l
  · simp at hl
  obtain _ | ⟨v14, l⟩ := l
  · simp at hl
  obtain _ | ⟨v15, l⟩ := l
  · simp at hl
  obtain _ | ⟨v16, l⟩ := l
  · simp at hl
  obtain _ | ⟨v17, l⟩ := l
  · simp at hl
  obtain _ | ⟨v18, l⟩ := l
  · simp at hl
  obtain _ | ⟨v19, l⟩ := l
  · simp at hl
  obtain _ | ⟨v20, l⟩ := l
  · simp at hl
  obtain _ | ⟨v21, l⟩ := l
  · simp at hl
  obtain _ | ⟨v22, l⟩ := l
  · simp at hl
  obtain _ | ⟨v23, l⟩ := l
  · simp at hl
  obtain _ | ⟨v24, l⟩ := l
  · simp at hl
  obtain _ | ⟨v25, l⟩ := l
  · simp at hl
  obtain _ | ⟨v26, l⟩ := l
  · simp at hl
  obtain _ | ⟨v27, l⟩ := l
  · simp at hl
  obtain _ | ⟨v28, l⟩ := l
  · simp at hl
  obtain _ | ⟨v29, l⟩ := l
  · simp at hl
  obtain _ | ⟨v30, l⟩ := l
  · simp at hl
  obtain _ | ⟨v31, l⟩ := l
  · simp at hl
  obtain _ | ⟨v32, l⟩ := l
  · simp at hl
  obtain _ | ⟨v33, l⟩ := l
  · simp at hl
  obtain _ | ⟨v34, l⟩ := l
  · simp at hl
  obtain _ | ⟨v35, l⟩ := l
  · simp at hl
  obtain _ | ⟨x, l⟩ := l
  · exact ⟨_, _, _, _, _, _, _, _, _, _, _, _, _, _, _, _, _, _, _, _, _, _, _, _, _, _, _, _, _, _, _, _, _, _, _, _, rfl⟩
  · simp only [List.length_cons] at hl
    omega
theorem arr22 (T : Array Value) (h : T.size = 22) : ∃ v0 v1 v2 v3 v4 v5 v6 v7 v8 v9 v10 v11 v12 v13 v14 v15 v16 v17 v18 v19 v20 v21, T = #[v0, v1, v2, v3, v4, v5, v6, v7, v8, v9, v10, v11, v12, v13, v14, v15, v16, v17, v18, v19, v20, v21] := by
  have hl : T.toList.length = 22 := by simpa using h
  obtain ⟨l⟩ := T
  simp only at hl
  obtain _ | ⟨v0, l⟩ := l
  · simp at hl
  obtain _ | ⟨v1, l⟩ := l
  · simp at hl
  obtain _ | ⟨v2, l⟩ := l
  · simp at hl
  obtain _ | ⟨v3, l⟩ := l
  · simp at hl
  obtain _ | ⟨v4, l⟩ := l
  · simp at hl
  obtain _ | ⟨v5, l⟩ := l
  · simp at hl
  obtain _ | ⟨v6, l⟩ := l
  · simp at hl
  obtain _ | ⟨v7, l⟩ := l
  · simp at hl
  obtain _ | ⟨v8, l⟩ := l
  · simp at hl
  obtain _ | ⟨v9, l⟩ := l
  · simp at hl
  obtain _ | ⟨v10, l⟩ := l
  · simp at hl
  obtain _ | ⟨v11, l⟩ := l
  · simp at hl
  obtain _ | ⟨v12, l⟩ := l
  · simp at hl
  obtain _ | ⟨v13, l⟩ := l
  · simp at hl
  obtain _ | ⟨v14, l⟩ := l
  · simp at hl
  obtain _ | ⟨v15, l⟩ := l
  · simp at hl
  obtain _ | ⟨v16, l⟩ := l
  · simp at hl
  obtain _ | ⟨v17, l⟩ := l
  · simp at hl
  obtain _ | ⟨v18, l⟩ := l
  · simp at hl
  obtain _ | ⟨v19, l⟩ := l
  · simp at hl
  obtain _ | ⟨v20, l⟩ := l
  · simp at hl
  obtain _ | ⟨v21, l⟩ := l
  · simp at hl
  obtain _ | ⟨x, l⟩ := l
  · exact ⟨_, _, _, _, _, _, _, _, _, _, _, _, _, _, _, _, _, _, _, _, _, _, rfl⟩
  · simp only [List.length_cons] at hl
    omega
theorem arr159 (T : Array Value) (h : T.size = 159) : ∃ v0 v1 v2 v3 v4 v5 v6 v7 v8 v9 v10 v11 v12 v13 v14 v15 v16 v17 v18 v19 v20 v21 v22 v23 v24 v25 v26 v27 v28 v29 v30 v31 v32 v33 v34 v35 v36 v37 v38 v39 v40 v41 v42 v43 v44 v45 v46 v47 v48 v49 v50 v51 v52 v53 v54 v55 v56 v57 v58 v59 v60 v61 v62 v63 v64 v65 v66 v67 v68 v69 v70 v71 v72 v73 v74 v75 v76 v77 v78 v79 v80 v81 v82 v83 v84 v85 v86 v87 v88 v89 v90 v91 v92 v93 v94 v95 v96 v97 v98 v99 v100 v101 v102 v103 v104 v105 v106 v107 v108 v109 v110 v111 v112 v113 v114 v115 v116 v117 v118 v119 v120 v121 v122 v123 v124 v125 v126 v127 v128 v129 v130 v131 v132 v133 v134 v135 v136 v137 v138 v139 v140 v141 v142 v143 v144 v145 v146 v147 v148 v149 v150 v151 v152 v153 v154 v155 v156 v157 v158, T = #[v0, v1, v2, v3, v4, v5, v6, v7, v8, v9, v10, v11, v12, v13, v14, v15, v16, v17, v18, v19, v20, v21, v22, v23, v24, v25, v26, v27, v28, v29, v30, v31, v32, v33, v34, v35, v36, v37, v38, v39, v40, v41, v42, v43, v44, v45, v46, v47, v48, v49, v50, v51, v52, v53, v54, v55, v56, v57, v58, v59, v60, v61, v62, v63, v64, v65, v66, v67, v68, v69, v70, v71, v72, v73, v74, v75, v76, v77, v78, v79, v80, v81, v82, v83, v84, v85, v86, v87, v88, v89, v90, v91, v92, v93, v94, v95, v96, v97, v98, v99, v100, v101, v102, v103, v104, v105, v106, v107, v108, v109, v110, v111, v112, v113, v114, v115, v116, v117, v118, v119, v120, v121, v122, v123, v124, v125, v126, v127, v128, v129, v130, v131, v132, v133, v134, v135, v136, v137, v138, v139, v140, v141, v142, v143, v144, v145, v146, v147, v148, v149, v150, v151, v152, v153, v154, v155, v156, v157, v158] := by
  have hl : T.toList.length = 159 := by simpa using h
  obtain ⟨l⟩ := T
  simp only at hl
  obtain _ | ⟨v0, l⟩ := l
  · simp at hl
  obtain _ | ⟨v1, l⟩ := l
  · simp at hl
  obtain _ | ⟨v2, l⟩ := l
  · simp at hl
  obtain _ | ⟨v3, l⟩ := l
  · simp at hl
  obtain _ | ⟨v4, l⟩ := l
  · simp at hl
  obtain _ | ⟨v5, l⟩ := l
  · simp at hl
  obtain _ | ⟨v6, l⟩ := l
  · simp at hl
  obtain _ | ⟨v7, l⟩ := l
  · simp at hl
  obtain _ | ⟨v8, l⟩ := l
  · simp at hl
  obtain _ | ⟨v9, l⟩ := l
  · simp at hl
  obtain _ | ⟨v10, l⟩ := l
  · simp at hl
  obtain _ | ⟨v11, l⟩ := l
  · simp at hl
  obtain _ | ⟨v12, l⟩ := l
  · simp at hl
  obtain _ | ⟨v13, l⟩ := l
  · simp at hl
  obtain _ | ⟨v14, l⟩ := l
  · simp at hl
  obtain _ | ⟨v15, l⟩ := l
  · simp at hl
  obtain _ | ⟨v16, l⟩ := l
  · simp at hl
  obtain _ | ⟨v17, l⟩ := l
  · simp at hl
  obtain _ | ⟨v18, l⟩ := l
  · simp at hl
  obtain _ | ⟨v19, l⟩ := l
  · simp at hl
  obtain _ | ⟨v20, l⟩ := l
  · simp at hl
  obtain _ | ⟨v21, l⟩ := l
  · simp at hl
  obtain _ | ⟨v22, l⟩ := l
  · simp at hl
  obtain _ | ⟨v23, l⟩ := l
  · simp at hl
  obtain _ | ⟨v24, l⟩ := l
  · simp at hl
  obtain _ | ⟨v25, l⟩ := l
  · simp at hl
  obtain _ | ⟨v26, l⟩ := l
  · simp at hl
  obtain _ | ⟨v27, l⟩ := l
  · simp at hl
  obtain _ | ⟨v28, l⟩ := l
  · simp at hl
  obtain _ | ⟨v29, l⟩ := l
  · simp at hl
  obtain _ | ⟨v30, l⟩ := l
  · simp at hl
  obtain _ | ⟨v31, l⟩ := l
  · simp at hl
  obtain _ | ⟨v32, l⟩ := l
  · simp at hl
  obtain _ | ⟨v33, l⟩ := l
  · simp at hl
  obtain _ | ⟨v34, l⟩ := l
  · simp at hl
  obtain _ | ⟨v35, l⟩ := l
  · simp at hl
  obtain _ | ⟨v36, l⟩ := l
  · simp at hl
  obtain _ | ⟨v37, l⟩ := l
  · simp at hl
  obtain _ | ⟨v38, l⟩ := l
  · simp at hl
  obtain _ | ⟨v39, l⟩ := l
  · simp at hl
  obtain _ | ⟨v40, l⟩ := l
  · simp at hl
  obtain _ | ⟨v41, l⟩ := l
  · simp at hl
  obtain _ | ⟨v42, l⟩ := l
  · simp at hl
  obtain _ | ⟨v43, l⟩ := l
  · simp at hl
  obtain _ | ⟨v44, l⟩ := l
  · simp at hl
  obtain _ | ⟨v45, l⟩ := l
  · simp at hl
  obtain _ | ⟨v46, l⟩ := l
  · simp at hl
  obtain _ | ⟨v47, l⟩ := l
  · simp at hl
  obtain _ | ⟨v48, l⟩ := l
  · simp at hl
  obtain _ | ⟨v49, l⟩ := l
  · simp at hl
  obtain _ | ⟨v50, l⟩ := l
  · simp at hl
  obtain _ | ⟨v51, l⟩ := l
  · simp at hl
  obtain _ | ⟨v52, l⟩ := l
  · simp at hl
  obtain _ | ⟨v53, l⟩ := l
  · simp at hl
  obtain _ | ⟨v54, l⟩ := l
  · simp at hl
  obtain _ | ⟨v55, l⟩ := l
  · simp at hl
  obtain _ | ⟨v56, l⟩ := l
  · simp at hl
  obtain _ | ⟨v57, l⟩ := l
  · simp at hl
  obtain _ | ⟨v58, l⟩ := l
  · simp at hl
  obtain _ | ⟨v59, l⟩ := l
  · simp at hl
  obtain _ | ⟨v60, l⟩ := l
  · simp at hl
  obtain _ | ⟨v61, l⟩ := l
  · simp at hl
  obtain _ | ⟨v62, l⟩ := l
  · simp at hl
  obtain _ | ⟨v63, l⟩ := l
  · simp at hl
  obtain _ | ⟨v64, l⟩ := l
  · simp at hl
  obtain _ | ⟨v65, l⟩ := l
  · simp at hl
  obtain _ | ⟨v66, l⟩ := l
  · simp at hl
  obtain _ | ⟨v67, l⟩ := l
  · simp at hl
  obtain _ | ⟨v68, l⟩ := l
  · simp at hl
  obtain _ | ⟨v69, l⟩ := l
  · simp at hl
  obtain _ | ⟨v70, l⟩ := l
  · simp at hl
  obtain _ | ⟨v71, l⟩ := l
  · simp at hl
  obtain _ | ⟨v72, l⟩ := l
  · simp at hl
  obtain _ | ⟨v73, l⟩ := l
  · simp at hl
  obtain _ | ⟨v74, l⟩ := l
  · simp at hl
  obtain _ | ⟨v75, l⟩ := l
  · simp at hl
  obtain _ | ⟨v76, l⟩ := l
  · simp at hl
  obtain _ | ⟨v77, l⟩ := l
  · simp at hl
  obtain _ | ⟨v78, l⟩ := l
  · simp at hl
  obtain _ | ⟨v79, l⟩ := l
  · simp at hl
  obtain _ | ⟨v80, l⟩ := l
  · simp at hl
  obtain _ | ⟨v81, l⟩ := l
  · simp at hl
  obtain _ | ⟨v82, l⟩ := l
  · simp at hl
  obtain _ | ⟨v83, l⟩ := l
  · simp at hl
  obtain _ | ⟨v84, l⟩ := l
  · simp at hl
  obtain _ | ⟨v85, l⟩ := l
  · simp at hl
  obtain _ | ⟨v86, l⟩ := l
  · simp at hl
  obtain _ | ⟨v87, l⟩ := l
  · simp at hl
  obtain _ | ⟨v88, l⟩ := l
  · simp at hl
  obtain _ | ⟨v89, l⟩ := l
  · simp at hl
  obtain _ | ⟨v90, l⟩ := l
  · simp at hl
  obtain _ | ⟨v91, l⟩ := l
  · simp at hl
  obtain _ | ⟨v92, l⟩ := l
  · simp at hl
  obtain _ | ⟨v93, l⟩ := l
  · simp at hl
  obtain _ | ⟨v94, l⟩ := l
  · simp at hl
  obtain _ | ⟨v95, l⟩ := l
  · simp at hl
  obtain _ | ⟨v96, l⟩ := l
  · simp at hl
  obtain _ | ⟨v97, l⟩ := l
  · simp at hl
  obtain _ | ⟨v98, l⟩ := l
  · simp at hl
  obtain _ | ⟨v99, l⟩ := l
  · simp at hl
  obtain _ | ⟨v100, l⟩ := l
  · simp at hl
  obtain _ | ⟨v101, l⟩ := l
  · simp at hl
  obtain _ | ⟨v102, l⟩ := l
  · simp at hl
  obtain _ | ⟨v103, l⟩ := l
  · simp at hl
  obtain _ | ⟨v104, l⟩ := l
  · simp at hl
  obtain _ | ⟨v105, l⟩ := l
  · simp at hl
  obtain _ | ⟨v106, l⟩ := l
  · simp at hl
  obtain _ | ⟨v107, l⟩ := l
  · simp at hl
  obtain _ | ⟨v108, l⟩ := l
  · simp at hl
  obtain _ | ⟨v109, l⟩ := l
  · simp at hl
  obtain _ | ⟨v110, l⟩ := l
  · simp at hl
  obtain _ | ⟨v111, l⟩ := l
  · simp at hl
  obtain _ | ⟨v112, l⟩ := l
  · simp at hl
  obtain _ | ⟨v113, l⟩ := l
  · simp at hl
  obtain _ | ⟨v114, l⟩ := l
  · simp at hl
  obtain _ | ⟨v115, l⟩ := l
  · simp at hl
  obtain _ | ⟨v116, l⟩ := l
  · simp at hl
  obtain _ | ⟨v117, l⟩ := l
  · simp at hl
  obtain _ | ⟨v118, l⟩ := l
  · simp at hl
  obtain _ | ⟨v119, l⟩ := l
  · simp at hl
  obtain _ | ⟨v120, l⟩ := l
  · simp at hl
  obtain _ | ⟨v121, l⟩ := l
  · simp at hl
  obtain _ | ⟨v122, l⟩ := l
  · simp at hl
  obtain _ | ⟨v123, l⟩ := l
  · simp at hl
  obtain _ | ⟨v124, l⟩ := l
  · simp at hl
  obtain _ | ⟨v125, l⟩ := l
  · simp at hl
  obtain _ | ⟨v126, l⟩ := l
  · simp at hl
  obtain _ | ⟨v127, l⟩ := l
  · simp at hl
  obtain _ | ⟨v128, l⟩ := l
  · simp at hl
  obtain _ | ⟨v129, l⟩ := l
  · simp at hl
  obtain _ | ⟨v130, l⟩ := l
  · simp at hl
  obtain _ | ⟨v131, l⟩ := l
  · simp at hl
  obtain _ | ⟨v132, l⟩ := l
  · simp at hl
  obtain _ | ⟨v133, l⟩ := l
  · simp at hl
  obtain _ | ⟨v134, l⟩ := l
  · simp at hl
  obtain _ | ⟨v135, l⟩ := l
  · simp at hl
  obtain _ | ⟨v136, l⟩ := l
  · simp at hl
  obtain _ | ⟨v137, l⟩ := l
  · simp at hl
  obtain _ | ⟨v138, l⟩ := l
  · simp at hl
  obtain _ | ⟨v139, l⟩ := l
  · simp at hl
  obtain _ | ⟨v140, l⟩ := l
  · simp at hl
  obtain _ | ⟨v141, l⟩ := l
  · simp at hl
  obtain _ | ⟨v142, l⟩ := l
  · simp at hl
  obtain _ | ⟨v143, l⟩ := l
  · simp at hl
  obtain _ | ⟨v144, l⟩ := l
  · simp at hl
  obtain _ | ⟨v145, l⟩ := l
  · simp at hl
  obtain _ | ⟨v146, l⟩ := l
  · simp at hl
  obtain _ | ⟨v147, l⟩ := l
  · simp at hl
  obtain _ | ⟨v148, l⟩ := l
  · simp at hl
  obtain _ | ⟨v149, l⟩ := l
  · simp at hl
  obtain _ | ⟨v150, l⟩ := l
  · simp at hl
  obtain _ | ⟨v151, l⟩ := l
  · simp at hl
  obtain _ | ⟨v152, l⟩ := l
  · simp at hl
  obtain _ | ⟨v153, l⟩ := l
  · simp at hl
  obtain _ | ⟨v154, l⟩ := l
  · simp at hl
  obtain _ | ⟨v155, l⟩ := l
  · simp at hl
  obtain _ | ⟨v156, l⟩ := l
  · simp at hl
  obtain _ | ⟨v157, l⟩ := l
  · simp at hl
  obtain _ | ⟨v158, l⟩ := l
  · simp at hl
  obtain _ | ⟨x, l⟩ := l
  · exact ⟨_, _, _, _, _, _, _, _, _, _, _, _, _, _, _, _, _, _, _, _, _, _, _, _, _, _, _, _, _, _, _, _, _, _, _, _, _, _, _, _, _, _, _, _, _, _, _, _, _, _, _, _, _, _, _, _, _, _, _, _, _, _, _, _, _, _, _, _, _, _, _, _, _, _, _, _, _, _, _, _, _, _, _, _, _, _, _, _, _, _, _, _, _, _, _, _, _, _, _, _, _, _, _, _, _, _, _, _, _, _, _, _, _, _, _, _, _, _, _, _, _, _, _, _, _, _, _, _, _, _, _, _, _, _, _, _, _, _, _, _, _, _, _, _, _, _, _, _, _, _, _, _, _, _, _, _, _, _, _, rfl⟩
  · simp only [List.length_cons] at hl
    omega

end
end Go.Proofs.Ytggfcdhkgldbfaa
