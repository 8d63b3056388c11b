/-
  PARTS of a claim, merged by segs.py: NwY8.
-/
import Derived.Test.YtggfcdhkgldbfaaN24
namespace Go.Proofs.Ytggfcdhkgldbfaa
set_option linter.unusedSimpArgs false
set_option linter.unusedVariables false

/-! ### NwY8 -/
section
set_option linter.unusedSimpArgs false
open Go Go.Conc Go.RowKit Go.ConcR.Gen Cw
open Go.ConcN (sumTo upd upd_same upd_ne sumTo_upd sumTo_congr le_sumTo WgLive)

def Rc.to (c : Rc) (ks : List Wk) (B : Nat) : Rc := { c with ks := ks, B₁ := B, B₀ := B, n := c.γ + ks.length }
theorem sum_ones (γ n : Nat) : ∀ m, m ≤ n → sumTo (γ + m) (fun x => if γ ≤ x ∧ x < γ + n then 1 else 0) = m
  | 0, _ => by
    have : ∀ m, m ≤ γ → sumTo m (fun x => if γ ≤ x ∧ x < γ + n then 1 else 0) = 0 := by
      intro m
      induction m with
      | zero => intro _; rfl
      | succ m ih => intro h; rw [sumTo, ih (by omega), if_neg (by omega)]
    exact this γ (Nat.le_refl _)
  | m + 1, h => by
    rw [← Nat.add_assoc, sumTo, sum_ones γ n m (by omega), if_pos (by omega)]
section
variable {t : Tasks} {c : Rc} {n : Nat} {m0 : t.M} {u : Value}
theorem spawn_loop [Ref] (O : TasksOk t c.N₀ c.FV) (hn63 : n < 9223372036854775807) (hv : n < 2147483646) {tkv : Value} {tp to' cap ncap : Nat} {psv : Value} {cs : List Frame} (htv : n = 0 ∨ tkv = .slice (some ⟨tp, to', none⟩) n cap) (htk : ∀ m w, t.Tm m w → ∀ k, k < n → w.cell? ⟨tp, to' + k, none⟩ = some (t.tv k)) (hstp : ∀ k, ¬ c.Sh (.cell ⟨tp, k, none⟩)) :
    ∀ (d : Nat) (ks : List Wk) (B : Nat) (m : Machine) (T : Trace), ks.length + d = n → Rs (c.to ks B) → Held Try.prog ((c.to ks B).X False) c.FV c.h 0 (c.to ks B).n (BysS t (c.to ks B)) (fun g w => Head1 psv (.slice (some ⟨c.wb, 0, none⟩) n ncap) tkv n ks.length c.wg c.ev cs g ∧ SW t (c.to ks B) n m0 u w) m T →
      Lands Try.prog m T (fun m' T' => ∃ ks B, ks.length = n ∧ Rs (c.to ks B) ∧ Held Try.prog ((c.to ks B).X False) c.FV c.h 0 (c.to ks B).n (BysS t (c.to ks B)) (fun g w => Head1 psv (.slice (some ⟨c.wb, 0, none⟩) n ncap) tkv n n c.wg c.ev cs g ∧ SW t (c.to ks B) n m0 u w) m' T')
  | 0, ks, B, m, T, hd, S, H => by
    obtain rfl : ks.length = n := by omega
    exact Lands.done ⟨ks, B, rfl, S, H⟩
  | d + 1, ks, B, m, T, hd, S, H => by
    obtain rfl : tkv = .slice (some ⟨tp, to', none⟩) n cap := htv.resolve_left (by omega)
    refine (spawn_round (c := c.to ks B) S rfl rfl O (show ks.length < n by omega) hn63 hv htk hstp H).bind fun m' T' h => ?_
    obtain ⟨r, B₁, S', H'⟩ := h
    refine spawn_loop O hn63 hv htv htk hstp d (ks ++ [r]) B₁ m' T' (by simp; omega) S' ?_
    rw [show (ks ++ [r]).length = ks.length + 1 by simp]
    exact H'
/-- The state at the beginning. -/
def Tasks.s0 (t : Tasks) (m0 : t.M) : Sst t := ⟨fun _ => false, t.l0, m0, []⟩
/-- .. and at the end. -/
def Tasks.fin (t : Tasks) (m0 : t.M) (n : Nat) (ps : List Nat) : Sst t := t.drains (List.range' 0 n) (ps.foldl (fun s k => t.step k s) (t.s0 m0))
theorem fits_widen [Ref] (S : Rs c) (hcn : c.n = c.γ + c.ks.length) (hn : c.ks.length < 2147483647) {K K' : Goroutine → World → Prop} (hK : ∀ g w, K g w → SW t c c.ks.length m0 u w) (hK' : ∀ g w, K g w → K' g w) {m : Machine} {T : Trace}
    (H : Held Try.prog (c.X False) c.FV c.h 0 c.n (BysS t c) K m T) : Held Try.prog (c.X True) c.V c.h 0 c.n (Bys t c (t.s0 m0) none) K' m T := by
  obtain ⟨gs, w, sl, q, Rd, B, cn, g, rfl, hgs, hg, hk, hB, C⟩ := H
  have W := hK g w hk
  have one := S.one
  have swg := S.wg
  have hwi : ∀ i, (c.X True).wg i = c.wg ↔ c.γ ≤ i := fun i => ⟨fun e => Nat.le_of_not_lt fun hlt => S.fwg i hlt (by rw [← e]; exact (if_neg (Nat.not_le_of_lt hlt)).symm), fun h => if_pos h⟩
  let cn' : Nat → Nat := fun x => if c.γ ≤ x then (if x < c.γ + c.ks.length then 1 else 0) else cn x
  have hlo : ∀ x, x < c.γ → cn' x = cn x := fun x hx => if_neg (by omega)
  have hon : ∀ b, (c.X False).on b → b ≠ c.wg := fun b o e => by
    have := S.fon b (o.resolve_right fun h => h.1); omega
  have hsum : sm (c.X True) gs.size cn' c.wg = c.ks.length := by
    have h1 : sm (c.X True) gs.size cn' c.wg = sumTo gs.size (fun x => if c.γ ≤ x ∧ x < c.γ + c.ks.length then 1 else 0) := by
      unfold sm
      refine sumTo_congr fun i _ => ?_
      by_cases e : c.γ ≤ i
      · rw [if_pos ((hwi i).2 e)]
        show (if c.γ ≤ i then (if i < c.γ + c.ks.length then 1 else 0) else cn i) = _
        rw [if_pos e]
        by_cases e2 : i < c.γ + c.ks.length
        · rw [if_pos e2, if_pos ⟨e, e2⟩]
        · rw [if_neg e2, if_neg fun h => e2 h.2]
      · rw [if_neg (fun h => e ((hwi i).1 h)), if_neg fun h => e h.1]
    rw [h1, hgs, hcn]
    exact sum_ones c.γ c.ks.length c.ks.length (Nat.le_refl _)
  have hns : ∀ i, (c.X True).wg i = c.wg → B i = .gone ∧ c.γ + c.ks.length ≤ i ∨ ∃ x z hm, B i = .seat x z hm := fun i hw => by
    have h0 := (hwi i).1 hw
    by_cases h1 : c.γ + c.ks.length ≤ i
    · exact .inl ⟨hB.2.1 i h1, h1⟩
    · obtain ⟨k', rfl⟩ : ∃ k', i = c.γ + k' := ⟨i - c.γ, by omega⟩
      obtain ⟨r', hk'⟩ : ∃ r', c.ks[k']? = some r' := ⟨_, List.getElem?_eq_getElem (show k' < c.ks.length by omega)⟩
      exact .inr ⟨_, _, _, hB.2.2 k' r' hk'⟩
  refine ⟨gs, w, sl, q, Rd, B, cn', g, rfl, hgs, hg, hK' g w hk, ⟨S.fb.up _ _ _ _ (fun _ _ _ => rfl) (fun j hj => hlo j hj) hB.1, hB.2.1, fun k r hr _ => ⟨fun _ => ⟨hB.2.2 k r hr, ?_⟩, fun h => by cases h⟩⟩, ⟨?_, C.sys⟩⟩
  · have := (List.getElem?_eq_some_iff.1 hr).1
    show (if c.γ ≤ c.γ + k then (if c.γ + k < c.γ + c.ks.length then 1 else 0) else cn (c.γ + k)) = 1
    rw [if_pos (by omega), if_pos (by omega)]
  · refine C.recast (X' := c.X True) (V' := c.V) (cn' := cn') (fun a h => h) rfl rfl rfl (fun a h => h) rfl (fun a ha => ⟨fun o => ?_, (C.st a ha).2.2⟩) (fun x hx hv => ?_) (fun a o => ?_) (fun i s hi e => ⟨rfl, ?_, .inr (C.volD i s hi e)⟩) (fun b o => ?_)
    · rcases o with o | ⟨_, o⟩
      · exact (C.st a ha).2.1 (.inl o)
      · exact (S.st_ne ha).1 o
    · rcases hv with rfl | hv
      · rcases hx with ⟨y, hy, e⟩ | hf
        · have rg := S.rng y hy
          rcases e with e | e
          · exact (rg y.cr (by simp [Wk.blocks])).2.2.1 e.symm
          · exact (rg y.cp (by simp [Wk.blocks])).2.2.1 e.symm
        · exact S.nfr swg.1 swg.2 (S.fch _ hf).1
      · exact C.volC x hx hv
    · rcases o with o | ⟨_, o⟩
      · exact C.sh a (.inl o)
      · exact S.shw a (.inl o)
    · have hil : i < gs.size := by
        refine Classical.byContradiction fun hn => ?_
        have := (C.out i (by omega)).2.2
        rw [e] at this; cases this
      have hid := C.idle i _ hi (Array.getElem?_eq_getElem hil)
      rw [e] at hid
      exact .inl (hid.2.1.resolve_right fun h => h.1)
    · rcases o with o | ⟨_, rfl⟩
      · have hb := hon b (.inl o)
        have hlt : ∀ i, (c.X True).wg i = b → i < c.γ := fun i e => Nat.lt_of_not_le fun h => hb (by rw [← e]; exact (hwi i).2 h)
        have hs : sm (c.X True) gs.size cn' b = sm (c.X False) gs.size cn b := sm_same (X := c.X True) fun i _ e => hlo i (hlt i e)
        refine ⟨MdOk.others (X := c.X True) (cn := cn) (C.mdok b (.inl o)) hs (fun _ _ => rfl) (fun i e => hlo i (hlt i e)) rfl, ?_⟩
        rw [hs]
        exact C.few b (.inl o)
      · refine ⟨⟨by omega, ?_, fun h => by omega, fun i s hi hw e => ?_, fun i hi hw e => ?_⟩, by rw [hsum]; exact hn⟩
        · rw [hsum]
          rw [Int.natCast_zero, Int.add_zero]
          exact W.wg
        · rcases hns i hw with ⟨h, _⟩ | ⟨_, _, _, h⟩ <;> rw [h] at e <;> cases e
        · rcases hns i hw with ⟨_, h⟩ | ⟨_, _, _, h⟩
          · show (if c.γ ≤ i then (if i < c.γ + c.ks.length then 1 else 0) else cn i) = 0
            rw [if_pos (by omega), if_neg (by omega)]
          · rw [h] at e; cases e
theorem qm_of_sw (S : Rs c) {w : World} (W : SW t c c.ks.length m0 u w) : QM t c (t.s0 m0).en (t.s0 m0).m (t.s0 m0).E w := by
  obtain ⟨ws, h1, _, h3, _⟩ := W.wb
  exact ⟨⟨W.wk, ⟨ws, h1, h3⟩, W.tm, W.size, fun a ha => (W.shg a ha).imp id .inl⟩, u, W.evc, W.evr, fun g hg => S.ok_of (W.uo g hg).1 (W.uo g hg).2.1 (W.uo g hg).2.2.1 (W.uo g hg).2.2.2.2⟩
theorem en_fold (k' : Nat) : ∀ (l : List Nat) (s : Sst t), s.en k' = true → (l.foldl (fun s k => t.step k s) s).en k' = true
  | [], _, h => h
  | k :: l, s, h => en_fold k' l _ (en_step k k' s h)
/-- What a call has done. -/
def Done (t : Tasks) (N₀ wg : Nat) (s : Sst t) (u : Value) (w : World) : Prop := t.Tm s.m w ∧ w.ownsRow N₀ 40 2 u s.E.length (evCells s.E) ∧ N₀ ≤ w.heap.size ∧ WgLive link.tWg wg w
/-- What is shared by now. -/
def Shd (c : Rc) (u : Value) (w : World) : Prop := (∀ a, c.Sh (.cell a) → a.block < c.N₀ ∨ ∃ st sm, Go.ConcR.WgAt link.tWg a.block w st sm) ∧ ∀ g, u.ownBlock = some g → ∀ a : Addr, a.block = g → ¬ c.Sh (.cell a)
/-- FROM THE HEAD OF THE SPAWN LOOP TO THE RETURN. -/
theorem run_loops [Ref] (O : TasksOk t c.N₀ c.FV) (hTn : ∀ ks B, ks.length = n → Rs (c.to ks B) → ∀ k, k < n → TurnsOk t (c.to ks B).toRb (c.to ks B).toRe k) (hv : n < 2147483646) (hKb : (sumTo n (fun k => t.rk k (t.l0 k)) + 1) * 1024 ≤ 140737488355328) (hI : t.InvS (t.s0 m0))
    {tkv : Value} {tp to' tcap : Nat} (htv : n = 0 ∨ tkv = .slice (some ⟨tp, to', none⟩) n tcap) (htk : ∀ m w, t.Tm m w → ∀ k, k < n → w.cell? ⟨tp, to' + k, none⟩ = some (t.tv k)) (hstp : ∀ k, ¬ c.Sh (.cell ⟨tp, k, none⟩))
    {a : Option Addr} {p o cap ncap : Nat} {ps : List Nat} (hpv : ps = [] ∨ a = some ⟨p, o, none⟩) (hps : ∀ i ∈ ps, i < n) (hn : ps.length < 9223372036854775807)
    (hpk : ∀ m w, t.Tm m w → ∀ (j i : Nat), ps[j]? = some i → w.cell? ⟨p, o + j, none⟩ = some (.int .i64 i)) (hsp : ∀ i, ¬ c.Sh (.cell ⟨p, i, none⟩)) (hpN : p < c.N₀ ∨ p = c.ev)
    (hks : c.ks = []) (hcB : c.B₁ = c.B₀) (hcn : c.n = c.γ) (S : Rs c) {b₀ : Frame} {a₀ : Act} {ops : Array Oper} {j : Nat} {rest : List Nat} {kk : List Item} {cs : List Frame} {m : Machine} {T : Trace}
    (H : Held Try.prog (c.X False) c.FV c.h 0 c.n (BysS t c) (fun g w => Head1 (.slice a ps.length cap) (.slice (some ⟨c.wb, 0, none⟩) n ncap) tkv n 0 c.wg c.ev (b₀.at a₀ (.inRegion ops (j :: rest) :: kk) :: cs) g ∧ SW t c n m0 u w) m T) :
    Lands Try.prog m T (fun m' T' => ∃ ks B e, ks.length = n ∧ Grow (c.to ks B).toRb (c.to ks B).toRe e ∧ Rs ((c.to ks B).wi e) ∧ Held Try.prog (((c.to ks B).wi e).X False) c.FV c.h 0 e.n (ByE c) (fun g w => ∃ u, g = G (b₀.at (a₀.put ((ops[j]?).bind (·.dst)) (.tuple #[u, .int .i64 0])) (.inRegion ops rest :: kk)) cs ∧ Done t c.N₀ c.wg (t.fin m0 n ps) u w ∧ e.B₀ ≤ w.heap.size ∧ Shd ((c.to ks B).wi e) u w) m' T') := by
  have hc : c = c.to [] c.B₀ := by
    obtain ⟨⟨ks, wb, ev, wg, N₀, B₁, γ, h, Fon, FV, Fwg, Ex, FB⟩, ⟨B₀, n', Sh, FSt, FCh⟩⟩ := c
    simp only at hks hcB hcn
    subst hks hcB hcn
    rfl
  have H' : Held Try.prog ((c.to [] c.B₀).X False) c.FV c.h 0 (c.to [] c.B₀).n (BysS t (c.to [] c.B₀)) (fun g w => Head1 (.slice a ps.length cap) (.slice (some ⟨c.wb, 0, none⟩) n ncap) tkv n ([] : List Wk).length c.wg c.ev (b₀.at a₀ (.inRegion ops (j :: rest) :: kk) :: cs) g ∧ SW t (c.to [] c.B₀) n m0 u w) m T := by
    rw [← hc]; exact H
  refine (spawn_loop O (by omega) hv htv htk hstp n [] c.B₀ m T (by simp) (hc ▸ S) H').bind fun m₁ T₁ h => ?_
  obtain ⟨ks, B, rfl, S₁, H₁⟩ := h
  have O₁ : TasksOk t (c.to ks B).N₀ (c.to ks B).FV := O
  have CL : Cl t (c.to ks B).toRb (c.to ks B).toRe (sumTo ks.length (fun k => t.rk k (t.l0 k))) := ⟨O₁, hTn ks B rfl S₁, hKb, by show ks.length < _; omega⟩
  -- the loop is over
  refine (H₁.walk (K' := fun g w => Head2 (.slice (some ⟨c.wb, 0, none⟩) ks.length ncap) (.slice a ps.length cap) ps.length 0 c.wg c.ev (b₀.at a₀ (.inRegion ops (j :: rest) :: kk) :: cs) g ∧ SW t (c.to ks B) ks.length m0 u w) (bysS_stb S₁) fun g w hK => ⟨0 + 16, ?_⟩).bind fun m₂ T₂ H₂ => ?_
  · exact h_end (X := (c.to ks B).X False) (R := Ext c.FV) (Q := SW t (c.to ks B) ks.length m0 u) (fun w w' h r => h.ext S₁ O₁ r) _ g w hK.2 hK.1 fun g w hg h => Goes.stop fun w' r => ⟨hg, h.ext S₁ O₁ r⟩
  have H₃ : MS t (c.to ks B) (t.s0 m0) (Head2 (.slice (some ⟨c.wb, 0, none⟩) ks.length ncap) (.slice a ps.length cap) ps.length 0 c.wg c.ev (b₀.at a₀ (.inRegion ops (j :: rest) :: kk) :: cs)) m₂ T₂ :=
    fits_widen S₁ rfl (by show ks.length < _; omega) (fun g w h => h.2) (fun g w h => ⟨h.1, qm_of_sw S₁ h.2⟩) H₂
  have hpB : p < (c.to ks B).B₁ := hpN.elim (fun h => Nat.lt_of_lt_of_le h S₁.lt1) fun h => by rw [h]; exact S₁.ev.2.1
  refine (picks_loop CL (psv := .slice a ps.length cap) (ncap := ncap) (cap := cap) (hpv.imp id fun e => by rw [e]) hps hn hpk (fun e hG i h => (hG.new _ h).elim (hsp i) fun h => absurd h (Nat.not_le_of_lt hpB)) ps.length 0 (by omega) (c.to ks B).toRe (t.s0 m0) m₂ T₂ (Grow.refl _ _) S₁ ⟨by show 0 + _ ≤ _; rw [Nat.zero_add]; exact Nat.le_refl _, hI⟩ H₃).bind fun m₃ T₃ h => ?_
  obtain ⟨e₁, hG₁, S₂, hp, H₄⟩ := h
  rw [List.drop_zero] at hp H₄
  refine (drains_loop CL ks.length 0 (by show 0 + ks.length = ks.length; omega) e₁ _ m₃ T₃ hG₁ S₂ (fun i hi => absurd hi (by omega)) hp H₄).bind fun m₄ T₄ h => ?_
  obtain ⟨e₂, hG₂, S₃, hen, H₅⟩ := h
  refine (run_tail (c := (c.to ks B).wi e₂) S₃ O₁ hen H₅).mono fun m' T' H => ⟨ks, B, e₂, rfl, hG₂, S₃, H.mono (fun g w h => ?_) (fun _ _ h => h)⟩
  obtain ⟨u, rfl, hL⟩ := h
  exact ⟨u, rfl, ⟨hL.1, hL.2.2.1, Nat.le_trans S₃.lt hL.2.2.2.1, hL.2.2.2.2.1⟩, hL.2.2.2.1, fun a ha => (hL.2.2.2.2.2.1 a ha).imp id fun h => h.elim (fun e => by rw [e]; exact hL.2.2.2.2.1) id, hL.2.2.2.2.2.2⟩
end
end
end Go.Proofs.Ytggfcdhkgldbfaa
