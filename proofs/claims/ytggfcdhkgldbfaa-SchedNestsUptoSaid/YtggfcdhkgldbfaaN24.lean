/-
  PARTS of a claim, merged by segs.py: NwY7.
-/
import Derived.Test.YtggfcdhkgldbfaaN23
namespace Go.Proofs.Ytggfcdhkgldbfaa
set_option linter.unusedSimpArgs false
set_option linter.unusedVariables false

/-! ### NwY7 -/
section
set_option linter.unusedSimpArgs false
open Go Go.Conc Go.RowKit Go.ConcR.Gen Cw
open Go.ConcN (sumTo upd upd_same upd_ne sumTo_upd sumTo_congr le_sumTo WgLive)

/-- One worker more. -/
def Rc.more (c : Rc) (r : Wk) (B₁ : Nat) : Rc := { c with ks := c.ks ++ [r], B₁ := B₁, B₀ := B₁, n := c.γ + (c.ks ++ [r]).length }
section
variable {t : Tasks} {c : Rc} {n : Nat} {m0 : t.M} {u : Value} {W w w' : World} {ws : Array Value} {St : Int} {r : Wk} {B₁ : Nat}
theorem more_get {k : Nat} {x : Wk} (h : (c.more r B₁).ks[k]? = some x) : c.ks[k]? = some x ∨ (k = c.ks.length ∧ x = r) := by
  simp only [Rc.more] at h
  rcases Nat.lt_or_ge k c.ks.length with hk | hk
  · rw [List.getElem?_append_left hk] at h; exact .inl h
  · rw [List.getElem?_append_right hk] at h
    have : k - c.ks.length = 0 := by
      rcases Nat.eq_zero_or_pos (k - c.ks.length) with e | e
      · exact e
      · rw [List.getElem?_eq_none (by simp; omega)] at h; cases h
    rw [this] at h
    simp at h
    exact .inr ⟨by omega, h.symm⟩
theorem more_mem {x : Wk} (h : x ∈ (c.more r B₁).ks) : x ∈ c.ks ∨ x = r := by
  simpa [Rc.more] using h
theorem Rs.more (S : Rs c) (hBB : c.B₁ = c.B₀) {N : Nat} (hN : c.B₀ ≤ N) (hB : N ≤ B₁) (hr : ∀ b ∈ r.blocks, N ≤ b ∧ b < B₁) (hne : r.cr ≠ r.cp) : Rs (c.more r B₁) := by
  have hlt := S.lt
  have hwb := S.wb
  have hev := S.ev
  have hwg := S.wg
  have frl : ∀ {b : Nat}, c.Fr b → b < c.N₀ := fun h => by rcases h with h | h <;> omega
  have old : ∀ {k : Nat} {x : Wk}, c.ks[k]? = some x → ∀ b ∈ x.blocks, b < N := fun hk b hb => by have := (S.rng _ (mem_of_get hk) b hb).2.1; omega
  refine ⟨fun k k' x x' hk hk' hkk => ?_, fun x hx => ?_, fun x hx b hb => ?_, ⟨hwb.1, by show c.wb < B₁; omega, hwb.2.2⟩, ⟨hev.1, by show c.ev < B₁; omega, hev.2.2⟩, ⟨hwg.1, by show c.wg < B₁; omega⟩, Nat.le_refl _, fun a ha => (S.sh a ha).imp (fun h => .inl (frl h)) id, S.shw, S.one, Nat.le_refl _, fun a ha => .inl (frl (S.fst a ha)), fun x hx => ⟨.inl (frl (S.fch x hx).1), (S.fch x hx).2⟩, S.fv, S.fon, S.ex, S.fwg, S.fb⟩
  · have nw := fun b hb => (hr b hb).1
    rcases more_get hk with h | ⟨rfl, rfl⟩ <;> rcases more_get hk' with h' | ⟨e', e''⟩
    · exact S.inj k k' x x' h h' hkk
    · subst e''
      have o := old h
      have a1 := o x.bs (by simp [Wk.blocks])
      have a2 := o x.cr (by simp [Wk.blocks])
      have a3 := o x.cp (by simp [Wk.blocks])
      have b1 := nw x'.bs (by simp [Wk.blocks])
      have b2 := nw x'.cr (by simp [Wk.blocks])
      have b3 := nw x'.cp (by simp [Wk.blocks])
      refine ⟨?_, ?_, ?_, ?_⟩ <;> omega
    · have o := old h'
      have a1 := o x'.bs (by simp [Wk.blocks])
      have a2 := o x'.cr (by simp [Wk.blocks])
      have a3 := o x'.cp (by simp [Wk.blocks])
      have b1 := nw x.bs (by simp [Wk.blocks])
      have b2 := nw x.cr (by simp [Wk.blocks])
      have b3 := nw x.cp (by simp [Wk.blocks])
      refine ⟨?_, ?_, ?_, ?_⟩ <;> omega
    · exact absurd e'.symm hkk
  · rcases more_mem hx with h | rfl
    · exact S.ne x h
    · exact hne
  · rcases more_mem hx with h | rfl
    · obtain ⟨a1, a2, a3⟩ := S.rng x h b hb
      exact ⟨a1, by show b < B₁; omega, a3⟩
    · obtain ⟨a1, a2⟩ := hr b hb
      refine ⟨?_, a2, ?_, ?_, ?_⟩
      · show c.N₀ ≤ b; omega
      · show b ≠ c.wg; omega
      · show b ≠ c.wb; omega
      · show b ≠ c.ev; omega
theorem Rs.st_ne (S : Rs c) {a : Addr} (h : c.St a) : a.block ≠ c.wg ∧ a.block ≠ c.wb ∧ a.block ≠ c.ev := by
  rcases h with ⟨r, hr, e⟩ | h
  · have rg := S.rng r hr
    rcases e with rfl | rfl | rfl | rfl | rfl <;> exact (rg _ (by simp [Wk.blocks])).2.2
  · have h1 := S.fst a h
    refine ⟨fun e => ?_, fun e => ?_, fun e => ?_⟩ <;> rw [e] at h1
    · exact S.nfr S.wg.1 S.wg.2 h1
    · exact S.nfr S.wb.1 S.wb.2.1 h1
    · exact S.nfr S.ev.1 S.ev.2.1 h1
theorem SW.ext (S : Rs c) (O : TasksOk t c.N₀ c.FV) (h : SW t c n m0 u w) (r : Ext c.FV w w') : SW t c n m0 u w' := by
  have e : ∀ {b : Nat} {o : Obj}, c.N₀ ≤ b → w.heap[b]? = some o → w'.heap[b]? = some o := fun hn hb => (r.same _ (Array.getElem?_eq_some_iff.1 hb).1 (S.nfv hn)).trans hb
  obtain ⟨ws, h1, h2⟩ := h.wb
  have := S.lt
  have := h.size
  refine ⟨fun k x hk => ?_, ⟨ws, e S.wb.1 h1, h2⟩, O.old m0 w w' (fun b hb hv => r.same b (by omega) hv) h.tm, Nat.le_trans h.size r.size, e S.wg.1 h.wg, e S.ev.1 h.evc, ownsRow_ext h.evr r fun g hg => S.nfv (h.uo g hg).1, h.shg, h.uo⟩
  have a := h.wk k x hk
  have rg := S.rng x (mem_of_get hk)
  obtain ⟨j, hj⟩ := a.hcr
  obtain ⟨i, hi⟩ := a.hcp
  exact ⟨e (rg _ (by simp [Wk.blocks])).1 a.hbw, e (rg _ (by simp [Wk.blocks])).1 a.hbt, e (rg _ (by simp [Wk.blocks])).1 a.hbi, e (rg _ (by simp [Wk.blocks])).1 a.hbs, ⟨j, e (rg _ (by simp [Wk.blocks])).1 hj⟩, ⟨i, e (rg _ (by simp [Wk.blocks])).1 hi⟩⟩
/-- The world behind a round. -/
theorem SW.more (S : Rs c) (hBB : c.B₁ = c.B₀) (O : TasksOk t c.N₀ c.FV) (h : SW t c n m0 u W) (hi : c.ks.length < n) (hws : W.heap[c.wb]? = some (.cells ws 67 (0, 0))) (hw : Sn c W (ws.set! c.ks.length (pb r.bs)) (((c.ks.length : Nat) + 1 : Int) * Go.ConcR.KK) w)
    (hm : Made W.heap.size r.bi r.bt r.cr r.cp r.bs r.bw c.ks.length (t.tv c.ks.length) w) (hB : B₁ ≤ w.heap.size) (hr : ∀ b ∈ r.blocks, W.heap.size ≤ b ∧ b < B₁) : SW t (c.more r B₁) n m0 u w := by
  have hsz := h.size
  have hlt := S.lt
  have hwb := S.wb
  have hev := S.ev
  have hwg := S.wg
  have h10 := S.b10
  have same : ∀ {b : Nat}, c.N₀ ≤ b → b < W.heap.size → b ≠ c.wb → b ≠ c.wg → w.heap[b]? = W.heap[b]? := fun h0 h1 h2 h3 => hw.same _ h1 h2 h3 (S.nfv h0)
  obtain ⟨ws', h1, h2, h3, h4⟩ := h.wb
  rw [hws] at h1
  obtain rfl : ws = ws' := by injection (Option.some.inj h1)
  refine ⟨fun k x hk => ?_, ⟨_, hw.wb, by simpa using h2, fun k x hk => ?_, fun k hk hkn => ?_⟩, O.old m0 W w (fun b hb hv => hw.same b (by omega) (by omega) (by omega) hv) h.tm, hB, ?_, ?_, ?_, h.shg, fun g hg => ?_⟩
  · rcases more_get hk with hk' | ⟨rfl, rfl⟩
    · have rg := S.rng x (mem_of_get hk')
      exact (h.wk k x hk').same fun b hb => by
        obtain ⟨a1, a2, a3, a4, a5⟩ := rg b hb
        exact same a1 (by omega) a4 a3
    · exact ⟨hm.hbw, hm.hbt, hm.hbi, hm.hbs, ⟨0, hm.hcr⟩, ⟨0, hm.hcp⟩⟩
  · rcases more_get hk with hk' | ⟨rfl, rfl⟩
    · have hkl := (List.getElem?_eq_some_iff.1 hk').1
      rw [Array.set!_eq_setIfInBounds, Array.getElem?_setIfInBounds_ne (by omega)]
      exact h3 k x hk'
    · rw [Array.set!_eq_setIfInBounds, Array.getElem?_setIfInBounds_self_of_lt (by omega)]
  · simp only [Rc.more, List.length_append, List.length_cons, List.length_nil] at hk
    rw [Array.set!_eq_setIfInBounds, Array.getElem?_setIfInBounds_ne (by omega)]
    exact h4 k (by omega) hkn
  · have := hw.wg
    simpa [Rc.more] using this
  · exact (same hev.1 (by omega) (Ne.symm hwb.2.2.2) hev.2.2).trans h.evc
  · refine ⟨h.evr.1, ?_⟩
    rcases h.evr.2 with hn | ⟨g, cap, cur, rfl, hb, hgg, rest⟩
    · exact .inl hn
    · obtain ⟨a1, a2, a3, a4, a5⟩ := h.uo g rfl
      exact .inr ⟨g, cap, cur, rfl, hb, (same a1 (by omega) a4 a3).trans hgg, rest⟩
  · obtain ⟨a1, a2, a3, a4, a5⟩ := h.uo g hg
    refine ⟨a1, by show g < B₁; have := (hr r.bs (by simp [Wk.blocks])); omega, a3, a4, fun x hx => ?_⟩
    rcases more_mem hx with hx' | rfl
    · exact a5 x hx'
    · intro hb
      have := (hr g hb).1
      omega

set_option maxHeartbeats 1000000 in
/-- A ROUND OF THE SPAWN LOOP. -/
theorem spawn_round [Ref] (S : Rs c) (hBB : c.B₁ = c.B₀) (hcn : c.n = c.γ + c.ks.length) (O : TasksOk t c.N₀ c.FV) (hi : c.ks.length < n) (hn63 : n < 9223372036854775807) (hv : n < 2147483646) {tp to' cap ncap : Nat} {psv : Value} {cs : List Frame} (htk : ∀ m w, t.Tm m w → ∀ k, k < n → w.cell? ⟨tp, to' + k, none⟩ = some (t.tv k)) (hstp : ∀ k, ¬ c.Sh (.cell ⟨tp, k, none⟩)) {m : Machine} {T : Trace}
    (HM : Held Try.prog (c.X False) c.FV c.h 0 c.n (BysS t c) (fun g w => Head1 psv (.slice (some ⟨c.wb, 0, none⟩) n ncap) (.slice (some ⟨tp, to', none⟩) n cap) n c.ks.length c.wg c.ev cs g ∧ SW t c n m0 u w) m T) :
    Lands Try.prog m T (fun m' T' => ∃ r B₁, Rs (c.more r B₁) ∧ Held Try.prog ((c.more r B₁).X False) c.FV c.h 0 (c.more r B₁).n (BysS t (c.more r B₁)) (fun g w => Head1 psv (.slice (some ⟨c.wb, 0, none⟩) n ncap) (.slice (some ⟨tp, to', none⟩) n cap) n (c.ks.length + 1) c.wg c.ev cs g ∧ SW t (c.more r B₁) n m0 u w) m' T') := by
  obtain ⟨gs, W, sl, q, Rd, B, cn, g, rfl, hn, hg, ⟨hH, hW⟩, hB, C⟩ := HM
  have hsz := hW.size
  have hlt := S.lt
  have swb := S.wb
  have sev := S.ev
  have swg := S.wg
  obtain ⟨ws, hws, hwl, hw1, hw2⟩ := hW.wb
  obtain ⟨ty, xv, htv⟩ := O.tvi c.ks.length
  have R0 := rd0_of (W := W) (ws := ws) (St := ((c.ks.length : Nat) : Int) * Go.ConcR.KK) S hsz
  have hSn : Sn c W ws (((c.ks.length : Nat) : Int) * Go.ConcR.KK) W := ⟨Nat.le_refl _, fun b _ _ _ _ => rfl, hws, hW.wg⟩
  have h10 := S.b10
  have hv0 : ∀ b, W.heap.size ≤ b → ¬ c.FV b := fun b hb => S.nfv (by omega)
  have H₀ : Held Try.prog (c.X False) c.FV c.h 0 c.n (BysS t c) (fun g w => Head1 psv (.slice (some ⟨c.wb, 0, none⟩) n ncap) (.slice (some ⟨tp, to', none⟩) n cap) n c.ks.length c.wg c.ev cs g ∧ Sn c W ws (((c.ks.length : Nat) : Int) * Go.ConcR.KK) w ∧ ∀ x ∈ ([] : List (Nat × Obj)), w.heap[x.1]? = some x.2 ∧ ¬ c.FV x.1) (crowd gs W sl) T :=
    ⟨gs, W, sl, q, Rd, B, cn, g, rfl, hn, hg, ⟨hH, hSn, by simp⟩, hB, C⟩
  clear hH hB C hg hn
  -- the boxes
  refine (H₀.walk (bysS_stb S) fun g w hK => ⟨30, h_boxes (X := c.X False) (Q := Sn c W ws (((c.ks.length : Nat) : Int) * Go.ConcR.KK)) R0.rl R0.fl R0.bx R0.low R0.al R0.set (ty := ty) (xv := xv) hi (fun w h => ?_) hstp cs g w hK.2 hK.1⟩).bind fun m₁ T₁ H₁ => ?_
  · rw [← htv]
    exact htk m0 w (O.old m0 W w (fun b hb hv => h.same b (by omega) (by omega) (by omega) hv) hW.tm) _ hi
  obtain ⟨bi, H₁⟩ := H₁.ex
  obtain ⟨bt, H₁⟩ := H₁.ex
  obtain ⟨lbi, H₁⟩ := H₁.and
  obtain ⟨lbt, H₁⟩ := H₁.and
  -- the drawn region
  refine (H₁.walk (bysS_stb S) fun g w hK => ⟨30, h_lay (X := c.X False) (tv := .iface ty xv) R0 ⟨lbi, lbt⟩ cs g w hK.2 hK.1⟩).bind fun m₂ T₂ H₂ => ?_
  obtain ⟨cr, H₂⟩ := H₂.ex
  obtain ⟨cp, H₂⟩ := H₂.ex
  obtain ⟨bs, H₂⟩ := H₂.ex
  obtain ⟨bw, H₂⟩ := H₂.ex
  -- the row of workers
  let r : Wk := ⟨bw, bt, bi, bs, cr, cp⟩
  have hrl : ∀ {ws' : Array Value} {s : Int} (w w' : World), (Sn c W ws' s w ∧ Made W.heap.size bi bt cr cp bs bw c.ks.length (.iface ty xv) w) → Ext c.FV w w' → (Sn c W ws' s w' ∧ Made W.heap.size bi bt cr cp bs bw c.ks.length (.iface ty xv) w') := fun w w' h r => ⟨h.1.rl S r, h.2.rl hv0 ⟨lbi, lbt⟩ r⟩
  have nsh : ∀ {b : Nat}, W.heap.size ≤ b → ¬ (c.X False).Sh (.cell ⟨b, 0, none⟩) := fun {b} hb => fun h => (S.sh _ h).elim (fun h => by rcases h with h | h <;> (simp only at h; omega)) (fun h => by simp only at h; omega)
  have hnil : ws[c.ks.length]? = some (.pointer none) := hw2 _ (Nat.le_refl _) hi
  refine (H₂.walk (K' := fun g w => (Sn c W (ws.set! c.ks.length (pb bs)) (((c.ks.length : Nat) : Int) * Go.ConcR.KK) w ∧ Made W.heap.size bi bt cr cp bs bw c.ks.length (.iface ty xv) w) ∧ ∃ T, Sl psv (.slice (some ⟨c.wb, 0, none⟩) n ncap) (.slice (some ⟨tp, to', none⟩) n cap) n c.ks.length c.wg c.ev bi bt bw T ∧ g = G (fRun T (.inRegion ops15 [0] :: .code (rt (rt (rt (rt blk1)))) :: todo1)) cs) (bysS_stb S) fun g w hK => ⟨20, ?_⟩).bind fun m₃ T₃ H₃ => ?_
  · refine h_store (X := c.X False) (bs := bs) (bw := bw) (bi := bi) (bt := bt) (wb := c.wb) (Q := fun w => Sn c W ws (((c.ks.length : Nat) : Int) * Go.ConcR.KK) w ∧ Made W.heap.size bi bt cr cp bs bw c.ks.length (.iface ty xv) w) hrl hrl hi (fun w h => by simp [World.cell?, h.2.hbi]) (fun w h => by simp [World.cell?, h.2.hbw]) (nsh lbi) (fun h => nsh (b := bw) ?_ h) (fun w h => ⟨.pointer none, by simp [World.cell?, h.1.wb, hnil]⟩) (fun w h => by simp [World.frozen?, h.1.wb]) (fun w h es hes => ⟨?_, ?_, ?_⟩) cs g w hK.2 hK.1
    · exact hK.2.2.low.2.2.2
    · have hb := h.1.wb
      refine hdq_write ?_ ?_ ?_ (fun b o e => by have := S.fon b (o.resolve_right fun h => h.1); simp only at e; omega) (S.nsh swb.1 swb.2.1 swb.2.2.1 rfl) (Array.getElem?_eq_some_iff.1 hb).1 ?_ hes
      · exact fun h => (S.st_ne h).2.1 rfl
      · rintro ⟨v, ty', hv', hbx, _⟩
        rw [hb] at hv'
        injection (Option.some.inj hv') with e1 e2
        rcases hbx with ⟨v1, e3, e | ⟨_, e⟩⟩ | e
        · rw [← e2] at e; cases e
        · rw [e1, e3] at hnil
          have : c.ks.length = 0 := by
            rcases Nat.eq_zero_or_pos c.ks.length with e | e
            · exact e
            · rw [Array.getElem?_eq_none (by simp; omega)] at hnil; cases hnil
          rw [this] at hnil
          simp at hnil
          exact e hnil
        · rw [← e2] at e; cases e
      · rintro x (⟨y, hy, e⟩ | hf) e'
        rotate_left
        · exact S.nfr swb.1 swb.2.1 (by rw [← (show x = c.wb from e')]; exact (S.fch x hf).1)
        have rg := S.rng y hy
        rcases e with rfl | rfl
        · exact (rg y.cr (by simp [Wk.blocks])).2.2.2.1 e'
        · exact (rg y.cp (by simp [Wk.blocks])).2.2.2.1 e'
      · exact fun a ha => cell_of_block (heap_setCell_ne w _ _ (S.st_ne ha).2.1)
    · have hs := fun {b : Nat} (hb : b ≠ c.wb) => heap_setCell_ne w ⟨c.wb, c.ks.length, none⟩ (pb bs) hb
      refine ⟨by rw [size_setCell']; exact h.1.size, fun b hb h1 h2 h3 => (hs h1).trans (h.1.same b hb h1 h2 h3), ?_, ?_⟩
      · simp [World.setCell, Array.getElem?_modify, h.1.wb]
      · have := h.1.wg
        unfold Go.ConcR.WgAt at this ⊢
        rw [hs (Ne.symm swb.2.2.1)]
        exact this
    · have hs := fun {b : Nat} (hb : W.heap.size ≤ b) => heap_setCell_ne w ⟨c.wb, c.ks.length, none⟩ (pb bs) (b := b) (by show b ≠ c.wb; omega)
      have M := h.2
      exact ⟨(hs lbi).trans M.hbi, (hs lbt).trans M.hbt, (hs M.low.1).trans M.hcr, (hs M.low.2.1).trans M.hcp, (hs M.low.2.2.1).trans M.hbs, (hs M.low.2.2.2).trans M.hbw, M.ne, M.low⟩
  -- Add
  have hex : Lands Try.prog m₃ T₃ (fun m' T' => ∃ Ts, Sl psv (.slice (some ⟨c.wb, 0, none⟩) n ncap) (.slice (some ⟨tp, to', none⟩) n cap) n c.ks.length c.wg c.ev bi bt bw Ts ∧ Ts.getD 49 undef = .func (.func 19) #[] #[pb c.wg, pb bw, pb bt, pb c.ev, pb bi] ∧
      Held Try.prog (c.X False) c.FV c.h 0 c.n (BysS t c) (fun g w => g = G (fRun Ts (.inRegion opsGo [1] :: todo1)) cs ∧ Sn c W (ws.set! c.ks.length (pb bs)) (((c.ks.length : Nat) + 1 : Int) * Go.ConcR.KK) w ∧ Made W.heap.size bi bt cr cp bs bw c.ks.length (.iface ty xv) w) m' T') := by
    have H₃' := (H₃.mono (K' := fun g w => ∃ T, Sl psv (.slice (some ⟨c.wb, 0, none⟩) n ncap) (.slice (some ⟨tp, to', none⟩) n cap) n c.ks.length c.wg c.ev bi bt bw T ∧ (g = G (fRun T (.inRegion ops15 [0] :: .code (rt (rt (rt (rt blk1)))) :: todo1)) cs ∧ (Sn c W (ws.set! c.ks.length (pb bs)) (((c.ks.length : Nat) : Int) * Go.ConcR.KK) w ∧ Made W.heap.size bi bt cr cp bs bw c.ks.length (.iface ty xv) w))) (fun g w h => by obtain ⟨h1, T, h2, h3⟩ := h; exact ⟨T, h2, h3, h1⟩) (fun _ _ h => h)).ex
    obtain ⟨Ts, H₃'⟩ := H₃'
    obtain ⟨hSl, H₃'⟩ := H₃'.and
    let K : World → Prop := fun w => (W.heap.size ≤ w.heap.size ∧ (∀ b, b < W.heap.size → b ≠ c.wb → b ≠ c.wg → ¬ c.FV b → w.heap[b]? = W.heap[b]?) ∧ w.heap[c.wb]? = some (.cells (ws.set! c.ks.length (pb bs)) 67 (0, 0))) ∧ Made W.heap.size bi bt cr cp bs bw c.ks.length (.iface ty xv) w
    have hKr : ∀ w w', Rz c.FV w w' → K w → K w' := fun w w' r h => ⟨⟨Nat.le_trans h.1.1 r.size, fun b hb h1 h2 h3 => (r.same b (Nat.lt_of_lt_of_le hb h.1.1) h3).trans (h.1.2.1 b hb h1 h2 h3), (r.same _ (Array.getElem?_eq_some_iff.1 h.1.2.2).1 (S.nfv swb.1)).trans h.1.2.2⟩, h.2.rl hv0 ⟨lbi, lbt⟩ r⟩
    have hKs : ∀ w x, K w → K (w.setCell (Go.ConcR.stA c.wg) x) := fun w x h => by
      have hs := fun {b : Nat} (hb : b ≠ c.wg) => heap_setCell_ne w (Go.ConcR.stA c.wg) x hb
      have hs' := fun {b : Nat} (hb : W.heap.size ≤ b) => hs (b := b) (by omega)
      have M := h.2
      exact ⟨⟨by rw [size_setCell']; exact h.1.1, fun b hb h1 h2 h3 => (hs h2).trans (h.1.2.1 b hb h1 h2 h3), (hs swb.2.2.1).trans h.1.2.2⟩, (hs' lbi).trans M.hbi, (hs' lbt).trans M.hbt, (hs' M.low.1).trans M.hcr, (hs' M.low.2.1).trans M.hcp, (hs' M.low.2.2.1).trans M.hbs, (hs' M.low.2.2.2).trans M.hbw, M.ne, M.low⟩
    have hKc : ∀ w, K w → ∀ x, (c.X False).Ch x → x ≠ c.wg := by
      rintro w _ x (⟨y, hy, e⟩ | hf)
      rotate_left
      · exact fun e => S.nfr swg.1 swg.2 (by rw [← e]; exact (S.fch x hf).1)
      have rg := S.rng y hy
      rcases e with rfl | rfl
      · exact (rg y.cr (by simp [Wk.blocks])).2.2.1
      · exact (rg y.cp (by simp [Wk.blocks])).2.2.1
    refine (add_round S (bysS_stb S) (by omega) hKr hKs hKc hSl.s8 (H₃'.mono (fun g w h => ⟨h.1, h.2.1.wg, ⟨h.2.1.size, h.2.1.same, h.2.1.wb⟩, h.2.2⟩) (fun _ _ h => h))).bind fun m₄ T₄ H₄ => ?_
    refine (H₄.walk (K' := fun g w => ∃ T, Sl psv (.slice (some ⟨c.wb, 0, none⟩) n ncap) (.slice (some ⟨tp, to', none⟩) n cap) n c.ks.length c.wg c.ev bi bt bw T ∧ T.getD 49 undef = .func (.func 19) #[] #[pb c.wg, pb bw, pb bt, pb c.ev, pb bi] ∧ g = G (fRun T (.inRegion opsGo [1] :: todo1)) cs ∧ Sn c W (ws.set! c.ks.length (pb bs)) (((c.ks.length : Nat) + 1 : Int) * Go.ConcR.KK) w ∧ Made W.heap.size bi bt cr cp bs bw c.ks.length (.iface ty xv) w) (bysS_stb S) fun g w hK => ⟨8, ?_⟩).mono fun m' T' H => ?_
    · obtain ⟨rfl, hwg, hK1, hK2⟩ := hK
      refine goes_imp (fun _ _ x => x) (fun _ _ _ x => x) (fun g w h => ?_) (h_go (X := c.X False) (R := Ext c.FV) (Q := fun w => Sn c W (ws.set! c.ks.length (pb bs)) (((c.ks.length : Nat) + 1 : Int) * Go.ConcR.KK) w ∧ Made W.heap.size bi bt cr cp bs bw c.ks.length (.iface ty xv) w) hrl cs w ⟨⟨hK1.1, hK1.2.1, hK1.2.2, hwg⟩, hK2⟩ Ts hSl)
      obtain ⟨h1, T, h2, h3, h4⟩ := h
      exact ⟨T, h2, h3, h4, h1⟩
    · obtain ⟨T, H⟩ := H.ex
      obtain ⟨h1, H⟩ := H.and
      obtain ⟨h2, H⟩ := H.and
      exact ⟨T, h1, h2, H⟩
  refine hex.bind fun m₄ T₄ h => ?_
  obtain ⟨Ts, hSl, h49, gs, w, sl, q, Rd, B, cn, g, rfl, hn, hg, ⟨rfl, hS, hM⟩, hB, C⟩ := h
  -- the go statement
  have hr : ∀ b ∈ r.blocks, W.heap.size ≤ b ∧ b < w.heap.size := by
    intro b hb
    simp only [Wk.blocks, r, List.mem_cons, List.not_mem_nil, or_false] at hb
    have lt : ∀ {b : Nat} {o : Obj}, w.heap[b]? = some o → b < w.heap.size := fun h => (Array.getElem?_eq_some_iff.1 h).1
    rcases hb with rfl | rfl | rfl | rfl | rfl | rfl
    · exact ⟨hM.low.2.2.2, lt hM.hbw⟩
    · exact ⟨lbt, lt hM.hbt⟩
    · exact ⟨lbi, lt hM.hbi⟩
    · exact ⟨hM.low.2.2.1, lt hM.hbs⟩
    · exact ⟨hM.low.1, lt hM.hcr⟩
    · exact ⟨hM.low.2.1, lt hM.hcp⟩
  have S' : Rs (c.more r w.heap.size) := S.more hBB hsz hS.size hr hM.ne
  have hSW : SW t (c.more r w.heap.size) n m0 u w := hW.more S hBB O hi hws hS (by rw [htv]; exact hM) (Nat.le_refl _) hr
  have C' : Crew Try.prog ((c.more r w.heap.size).X False) c.FV c.h 0 B Rd cn T₄ gs w q := by
    refine C.recast (cn' := cn) (fun a h => h.imp (fun ⟨x, hx, e⟩ => ⟨x, by simp [Rc.more, hx], e⟩) id) rfl rfl rfl (fun a h => h.imp (fun ⟨x, hx, e⟩ => ⟨x, by simp [Rc.more, hx], e⟩) id) rfl (fun a ha => ⟨fun o => ?_, ?_⟩) (fun x hx hv => ?_) C.sh (fun i s hi e => ⟨rfl, ?_, C.volD i s hi e⟩) (fun b o => ⟨C.mdok b o, C.few b o⟩)
    · have h1 := S.fon _ (o.resolve_right fun h => h.1)
      rcases ha with ⟨x, hx, e⟩ | hf
      · have rg := S'.rng x hx
        have h2 : ∀ b ∈ x.blocks, c.N₀ ≤ b := fun b hb => (rg b hb).1
        rcases e with rfl | rfl | rfl | rfl | rfl <;> exact absurd h1 (Nat.not_lt_of_le (h2 _ (by simp [Wk.blocks])))
      · exact (C.st a (.inr hf)).2.1 o
    · rcases ha with ⟨x, hx, e⟩ | hf
      · obtain ⟨k, hk⟩ := List.getElem?_of_mem hx
        have a := hSW.wk k x hk
        obtain ⟨ty', xv', htv'⟩ := O.tvi k
        have e2 := a.hbt
        rw [htv'] at e2
        rcases e with rfl | rfl | rfl | rfl | rfl
        · exact ⟨pb x.bs, by simp [World.cell?, a.hbw], fun _ _ _ => by simp⟩
        · exact ⟨.iface ty' xv', by simp [World.cell?, e2], fun _ _ _ => by simp⟩
        · exact ⟨.int .i64 k, by simp [World.cell?, a.hbi], fun _ _ _ => by simp⟩
        · exact ⟨.chan (some x.cr), by simp [World.cell?, a.hbs], fun _ _ _ => by simp⟩
        · exact ⟨.chan (some x.cp), by simp [World.cell?, a.hbs], fun _ _ _ => by simp⟩
      · exact (C.st a (.inr hf)).2.2
    · have h1 := S.fv x hv
      rcases hx with ⟨y, hy, e⟩ | hf
      · have rg := S'.rng y hy
        have h2 : ∀ b ∈ y.blocks, c.N₀ ≤ b := fun b hb => (rg b hb).1
        rcases e with rfl | rfl <;> exact absurd h1 (Nat.not_lt_of_le (h2 _ (by simp [Wk.blocks])))
      · exact (S.fch x hf).2 hv
    · have hil : i < gs.size := by
        refine Classical.byContradiction fun hn => ?_
        have := (C.out i (by omega)).2.2
        rw [e] at this; cases this
      have hid := C.idle i _ hi (Array.getElem?_eq_getElem hil)
      rw [e] at hid
      exact hid.2.1
  have hrm : r ∈ (c.more r w.heap.size).ks := by simp [Rc.more]
  have hget : (c.more r w.heap.size).ks[c.ks.length]? = some r := by simp [Rc.more]
  have M := hSW.wk c.ks.length r hget
  obtain ⟨nW, hWay⟩ := w_birth c.wg bw bt c.ev bi bs cr cp (t.tv c.ks.length) (c.ks.length : Int) (t.home (c.more r w.heap.size) r c.ks.length (t.l0 c.ks.length)) (fun b1 b2 => ⟨b1, b2, fun _ _ => False, (funext fun a => funext fun v => propext ⟨.inl, fun h => h.elim id False.elim⟩), O.birth r c.wg c.ev c.ks.length b1 b2⟩)
  have hst : ∀ a v, Lean0 bw bt bi bs cr cp (t.tv c.ks.length) (c.ks.length : Int) a v → w.cell? a = some v ∧ ∃ x ∈ (c.more r w.heap.size).ks, a = ⟨x.bw, 0, none⟩ ∨ a = ⟨x.bt, 0, none⟩ ∨ a = ⟨x.bi, 0, none⟩ ∨ a = ⟨x.bs, 0, none⟩ ∨ a = ⟨x.bs, 1, none⟩ := by
    intro a v h
    rcases h with ⟨rfl, rfl⟩ | ⟨rfl, rfl⟩ | ⟨rfl, rfl⟩ | ⟨rfl, rfl⟩ | ⟨rfl, rfl⟩
    · exact ⟨by simp [World.cell?, M.hbw, r], r, hrm, .inl rfl⟩
    · exact ⟨by have := M.hbt; simp only [r] at this; simp [World.cell?, this], r, hrm, .inr (.inl rfl)⟩
    · exact ⟨by have := M.hbi; simp only [r] at this; simp [World.cell?, this], r, hrm, .inr (.inr (.inl rfl))⟩
    · exact ⟨by have := M.hbs; simp only [r] at this; simp [World.cell?, this], r, hrm, .inr (.inr (.inr (.inl rfl)))⟩
    · exact ⟨by have := M.hbs; simp only [r] at this; simp [World.cell?, this], r, hrm, .inr (.inr (.inr (.inr rfl)))⟩
  have hs1 : ∀ i z home, i ≠ c.h → B i ≠ .seat cr z home := by
    intro i z home hi0 e
    have h3 := hM.low.1
    by_cases h0 : i < c.γ
    · have := S.fb.ch B cn i cr z home hB.1 h0 hi0 e
      omega
    by_cases h1 : c.γ + c.ks.length ≤ i
    · rw [hB.2.1 i h1] at e; cases e
    · obtain ⟨k', rfl⟩ : ∃ k', i = c.γ + k' := ⟨i - c.γ, by omega⟩
      obtain ⟨r', hk'⟩ : ∃ r', c.ks[k']? = some r' := ⟨_, List.getElem?_eq_getElem (show k' < c.ks.length by omega)⟩
      rw [hB.2.2 k' r' hk'] at e
      injection e with e1
      have h2 := (S.rng r' (mem_of_get hk') r'.cr (by simp [Wk.blocks])).2.1
      omega
  have hs2 : ∀ a v, Lean0 bw bt bi bs cr cp (t.tv c.ks.length) (c.ks.length : Int) a v → ¬ ((c.more r w.heap.size).X False).Sh (.cell a) := by
    intro a v h
    obtain ⟨x, hx, e⟩ := (hst a v h).2
    have rg := S'.rng x hx
    have key : ∀ b ∈ x.blocks, a.block = b → ¬ ((c.more r w.heap.size).X False).Sh (.cell a) := fun b hb e => S'.nsh (on := False) (rg b hb).1 (rg b hb).2.1 (rg b hb).2.2.1 e
    rcases e with rfl | rfl | rfl | rfl | rfl <;> exact key _ (by simp [Wk.blocks]) rfl
  obtain ⟨N, gs', w', sl', T', q', Rd', B₁, cn', hrun, hsz', hg', hRw, hExt, hEnv, hlat, C''⟩ := C'.hire (sl := sl) (rely_ext c.FV B c.h) (fun _ _ _ x y => x.trans y) hg rfl (fun w₁ _ => go_spawn c.wg bw bt c.ev bi Ts h49 cs w₁) (c := cr) (L := Lean0 bw bt bi bs cr cp (t.tv c.ks.length) (c.ks.length : Int)) (fun o => by
    have h1 := S.fon _ (o.resolve_right fun h => h.1)
    rw [show ((c.more r w.heap.size).X False).wg gs.size = c.wg from if_pos (by show c.γ ≤ gs.size; omega)] at h1
    omega) (.inl ⟨r, hrm, .inl rfl⟩) ⟨0, hM.hcr⟩ hs1 (fun a v h => ⟨(hst a v h).1, .inl (.inl (hst a v h).2), hs2 a v h⟩) hWay
  · have hlen : (c.more r w.heap.size).n = c.γ + (c.ks.length + 1) := by simp [Rc.more]
    have H₅ : Held Try.prog ((c.more r w.heap.size).X False) c.FV c.h 0 (c.more r w.heap.size).n (BysS t (c.more r w.heap.size)) (fun g w' => g = G (fRun Ts (.inRegion opsGo [] :: todo1)) cs ∧ SW t (c.more r w.heap.size) n m0 u w') (crowd gs' w' sl') T' := by
      refine ⟨gs', w', sl', q', Rd', _, cn', _, rfl, by omega, hg', ⟨rfl, hSW.ext S' O hExt⟩, ?_, ⟨C'', C.sys.of hEnv.io⟩⟩
      have hB₁ := bysS_stb (t := t) S _ _ _ _ hB hlat
      refine ⟨S.fb.up _ _ _ _ (fun j hj _ => upd_ne _ _ (by omega)) (fun _ _ => rfl) hB₁.1, fun j hj' => ?_, fun k x hk => ?_⟩
      · have hj2 : c.γ + (c.ks.length + 1) ≤ j := by simpa [Rc.more] using hj'
        rw [upd_ne _ _ (by omega)]
        exact hB₁.2.1 j (by omega)
      · rcases more_get hk with hk' | ⟨rfl, rfl⟩
        · have := (List.getElem?_eq_some_iff.1 hk').1
          rw [upd_ne _ _ (by have : (c.more r w.heap.size).γ = c.γ := rfl; omega)]
          exact hB₁.2.2 k x hk'
        · rw [show (c.more r w.heap.size).γ + c.ks.length = gs.size from by have : (c.more r w.heap.size).γ = c.γ := rfl; omega, upd_same]
    refine Lands.bind ⟨N, _, _, hrun, H₅⟩ fun m₅ T₅ H₅ => (H₅.walk (K' := fun g w' => Head1 psv (.slice (some ⟨c.wb, 0, none⟩) n ncap) (.slice (some ⟨tp, to', none⟩) n cap) n (c.ks.length + 1) c.wg c.ev cs g ∧ SW t (c.more r w.heap.size) n m0 u w') (bysS_stb S') fun g w' hK => ⟨0 + 7, ?_⟩).mono fun m' T' H => ⟨r, w.heap.size, S', H⟩
    obtain ⟨rfl, hQ⟩ := hK
    exact h_next (X := (c.more r w.heap.size).X False) (R := Ext c.FV) (Q := SW t (c.more r w.heap.size) n m0 u) (fun w w' h r => h.ext S' O r) hi hn63 cs w' hQ Ts hSl.sz hSl.s0 hSl.s7 hSl.s6 hSl.s8 hSl.s33 hSl.s34 hSl.s35 fun g w hg h => Goes.stop fun w' r => ⟨hg, h.ext S' O r⟩
end
end
end Go.Proofs.Ytggfcdhkgldbfaa
