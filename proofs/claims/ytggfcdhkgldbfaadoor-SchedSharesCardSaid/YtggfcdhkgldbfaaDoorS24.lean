/-
  PARTS of a claim, merged by segs.py: CwY7, CwY8.
-/
import Derived.Test.YtggfcdhkgldbfaaDoorS23
namespace Go.Proofs.YtggfcdhkgldbfaaDoor
set_option linter.unusedSimpArgs false
set_option linter.unusedVariables false

/-! ### CwY7 -/
section
set_option linter.unusedSimpArgs false
open Go Go.Conc Go.RowKit Go.ConcR.Gen Cw
open Go.ConcN (sumTo upd upd_same upd_ne sumTo_upd sumTo_congr le_sumTo WgLive)

/-- One worker more. -/
def Rc.more (c : Rc) (r : Wk) (B₁ : Nat) : Rc := { c with ks := c.ks ++ [r], B₀ := B₁ }
section
variable {t : Tasks} {c : Rc} {Sh0 : Loc → Prop} {n : Nat} {m0 : t.M} {u : Value} {W w w' : World} {ws : Array Value} {St : Int} {r : Wk} {B₁ : Nat}
theorem more_get {k : Nat} {x : Wk} (h : (c.more r B₁).ks[k]? = some x) : c.ks[k]? = some x ∨ (k = c.ks.length ∧ x = r) := by
  simp only [Rc.more] at h
  rcases Nat.lt_or_ge k c.ks.length with hk | hk
  · rw [List.getElem?_append_left hk] at h; exact .inl h
  · rw [List.getElem?_append_right hk] at h
    have : k - c.ks.length = 0 := by
      rcases Nat.eq_zero_or_pos (k - c.ks.length) with e | e
      · exact e
      · rw [List.getElem?_eq_none (by simp; omega)] at h; cases h
    rw [this] at h
    simp at h
    exact .inr ⟨by omega, h.symm⟩
theorem more_mem {x : Wk} (h : x ∈ (c.more r B₁).ks) : x ∈ c.ks ∨ x = r := by
  simpa [Rc.more] using h
theorem Rs.more (S : Rs c) {N : Nat} (hN : c.B₀ ≤ N) (hB : N ≤ B₁) (hr : ∀ b ∈ r.blocks, N ≤ b ∧ b < B₁) (hne : r.cr ≠ r.cp) : Rs (c.more r B₁) := by
  have hlt := S.lt
  have hwb := S.wb
  have hev := S.ev
  have hwg := S.wg
  have old : ∀ {k : Nat} {x : Wk}, c.ks[k]? = some x → ∀ b ∈ x.blocks, b < N := fun hk b hb => by have := (S.rng _ (mem_of_get hk) b hb).2.1; omega
  refine ⟨fun k k' x x' hk hk' hkk => ?_, fun x hx => ?_, fun x hx b hb => ?_, ⟨hwb.1, by show c.wb < B₁; omega, hwb.2.2⟩, ⟨hev.1, by show c.ev < B₁; omega, hev.2.2⟩, ⟨hwg.1, by show c.wg < B₁; omega⟩, S.sh, S.shw, S.one⟩
  · have nw := fun b hb => (hr b hb).1
    rcases more_get hk with h | ⟨rfl, rfl⟩ <;> rcases more_get hk' with h' | ⟨e', e''⟩
    · exact S.inj k k' x x' h h' hkk
    · subst e''
      have o := old h
      have a1 := o x.bs (by simp [Wk.blocks])
      have a2 := o x.cr (by simp [Wk.blocks])
      have a3 := o x.cp (by simp [Wk.blocks])
      have b1 := nw x'.bs (by simp [Wk.blocks])
      have b2 := nw x'.cr (by simp [Wk.blocks])
      have b3 := nw x'.cp (by simp [Wk.blocks])
      refine ⟨?_, ?_, ?_, ?_⟩ <;> omega
    · have o := old h'
      have a1 := o x'.bs (by simp [Wk.blocks])
      have a2 := o x'.cr (by simp [Wk.blocks])
      have a3 := o x'.cp (by simp [Wk.blocks])
      have b1 := nw x.bs (by simp [Wk.blocks])
      have b2 := nw x.cr (by simp [Wk.blocks])
      have b3 := nw x.cp (by simp [Wk.blocks])
      refine ⟨?_, ?_, ?_, ?_⟩ <;> omega
    · exact absurd e'.symm hkk
  · rcases more_mem hx with h | rfl
    · exact S.ne x h
    · exact hne
  · rcases more_mem hx with h | rfl
    · obtain ⟨a1, a2, a3⟩ := S.rng x h b hb
      exact ⟨a1, by show b < B₁; omega, a3⟩
    · obtain ⟨a1, a2⟩ := hr b hb
      refine ⟨?_, a2, ?_, ?_, ?_⟩
      · show c.N₀ ≤ b; omega
      · show b ≠ c.wg; omega
      · show b ≠ c.wb; omega
      · show b ≠ c.ev; omega
theorem Rs.st_ne (S : Rs c) {a : Addr} (h : c.St a) : c.N₀ ≤ a.block ∧ a.block < c.B₀ ∧ a.block ≠ c.wg ∧ a.block ≠ c.wb ∧ a.block ≠ c.ev := by
  obtain ⟨r, hr, e⟩ := h
  have rg := S.rng r hr
  rcases e with rfl | rfl | rfl | rfl | rfl <;> exact rg _ (by simp [Wk.blocks])
theorem SW.ext (S : Rs c) (O : TasksOk t c.N₀ Sh0) (h : SW t c n m0 u w) (r : Ext Vn w w') : SW t c n m0 u w' := by
  have e : ∀ {b : Nat} {o : Obj}, w.heap[b]? = some o → w'.heap[b]? = some o := fun hb => (r.same _ (Array.getElem?_eq_some_iff.1 hb).1 id).trans hb
  obtain ⟨ws, h1, h2⟩ := h.wb
  have := S.lt
  have := h.size
  refine ⟨fun k x hk => ?_, ⟨ws, e h1, h2⟩, O.old m0 w w' (fun b hb => r.same b (by omega) id) h.tm, Nat.le_trans h.size r.size, e h.wg, e h.evc, ownsRow_ext h.evr r fun _ _ => id, h.uo⟩
  have a := h.wk k x hk
  obtain ⟨j, hj⟩ := a.hcr
  obtain ⟨i, hi⟩ := a.hcp
  exact ⟨e a.hbw, e a.hbt, e a.hbi, e a.hbs, ⟨j, e hj⟩, ⟨i, e hi⟩⟩
/-- The world behind a round. -/
theorem SW.more (S : Rs c) (O : TasksOk t c.N₀ Sh0) (h : SW t c n m0 u W) (hi : c.ks.length < n) (hws : W.heap[c.wb]? = some (.cells ws 63 (0, 0))) (hw : Sn c W (ws.set! c.ks.length (pb r.bs)) (((c.ks.length : Nat) + 1 : Int) * Go.ConcR.KK) w)
    (hm : Made W.heap.size r.bi r.bt r.cr r.cp r.bs r.bw c.ks.length (t.tv c.ks.length) w) (hB : B₁ ≤ w.heap.size) (hr : ∀ b ∈ r.blocks, W.heap.size ≤ b ∧ b < B₁) : SW t (c.more r B₁) n m0 u w := by
  have hsz := h.size
  have hlt := S.lt
  have hwb := S.wb
  have hev := S.ev
  have hwg := S.wg
  have same : ∀ {b : Nat}, b < W.heap.size → b ≠ c.wb → b ≠ c.wg → w.heap[b]? = W.heap[b]? := fun h1 h2 h3 => hw.same _ h1 h2 h3
  obtain ⟨ws', h1, h2, h3, h4⟩ := h.wb
  rw [hws] at h1
  obtain rfl : ws = ws' := by injection (Option.some.inj h1)
  refine ⟨fun k x hk => ?_, ⟨_, hw.wb, by simpa using h2, fun k x hk => ?_, fun k hk hkn => ?_⟩, O.old m0 W w (fun b hb => same (by omega) (by omega) (by omega)) h.tm, hB, ?_, ?_, ?_, fun g hg => ?_⟩
  · rcases more_get hk with hk' | ⟨rfl, rfl⟩
    · have rg := S.rng x (mem_of_get hk')
      exact (h.wk k x hk').same fun b hb => by
        obtain ⟨a1, a2, a3, a4, a5⟩ := rg b hb
        exact same (by omega) a4 a3
    · exact ⟨hm.hbw, hm.hbt, hm.hbi, hm.hbs, ⟨0, hm.hcr⟩, ⟨0, hm.hcp⟩⟩
  · rcases more_get hk with hk' | ⟨rfl, rfl⟩
    · have hkl := (List.getElem?_eq_some_iff.1 hk').1
      rw [Array.set!_eq_setIfInBounds, Array.getElem?_setIfInBounds_ne (by omega)]
      exact h3 k x hk'
    · rw [Array.set!_eq_setIfInBounds, Array.getElem?_setIfInBounds_self_of_lt (by omega)]
  · simp only [Rc.more, List.length_append, List.length_cons, List.length_nil] at hk
    rw [Array.set!_eq_setIfInBounds, Array.getElem?_setIfInBounds_ne (by omega)]
    exact h4 k (by omega) hkn
  · have := hw.wg
    simpa [Rc.more] using this
  · exact (same (by omega) (Ne.symm hwb.2.2.2) hev.2.2).trans h.evc
  · refine ⟨h.evr.1, ?_⟩
    rcases h.evr.2 with hn | ⟨g, cap, cur, rfl, hb, hgg, rest⟩
    · exact .inl hn
    · obtain ⟨a1, a2, a3, a4, a5⟩ := h.uo g rfl
      exact .inr ⟨g, cap, cur, rfl, hb, (same (by omega) a4 a3).trans hgg, rest⟩
  · obtain ⟨a1, a2, a3, a4, a5⟩ := h.uo g hg
    refine ⟨a1, by show g < B₁; have := (hr r.bs (by simp [Wk.blocks])); omega, a3, a4, fun x hx => ?_⟩
    rcases more_mem hx with hx' | rfl
    · exact a5 x hx'
    · intro hb
      have := (hr g hb).1
      omega

set_option maxHeartbeats 1000000 in
/-- A ROUND OF THE SPAWN LOOP. -/
theorem spawn_round [Ref] (S : Rs c) (O : TasksOk t c.N₀ Sh0) (hi : c.ks.length < n) (hn63 : n < 9223372036854775807) (hv : n < 2147483646) {tp to' cap ncap : Nat} {psv : Value} {cs : List Frame} (htk : ∀ m w, t.Tm m w → ∀ k, k < n → w.cell? ⟨tp, to' + k, none⟩ = some (t.tv k)) (hstp : ∀ k, ¬ c.Sh (.cell ⟨tp, k, none⟩)) {m : Machine} {T : Trace}
    (HM : Held Tryd.prog (c.X False) Vn 0 0 (c.γ + c.ks.length) (BysS t c) (fun g w => Head1 psv (.slice (some ⟨c.wb, 0, none⟩) n ncap) (.slice (some ⟨tp, to', none⟩) n cap) n c.ks.length c.wg c.ev cs g ∧ SW t c n m0 u w) m T) :
    Lands Tryd.prog m T (fun m' T' => ∃ r B₁, Rs (c.more r B₁) ∧ Held Tryd.prog ((c.more r B₁).X False) Vn 0 0 (c.γ + (c.ks.length + 1)) (BysS t (c.more r B₁)) (fun g w => Head1 psv (.slice (some ⟨c.wb, 0, none⟩) n ncap) (.slice (some ⟨tp, to', none⟩) n cap) n (c.ks.length + 1) c.wg c.ev cs g ∧ SW t (c.more r B₁) n m0 u w) m' T') := by
  obtain ⟨gs, W, sl, q, Rd, B, cn, g, rfl, hn, hg, ⟨hH, hW⟩, hB, C⟩ := HM
  have hsz := hW.size
  have hlt := S.lt
  have swb := S.wb
  have sev := S.ev
  have swg := S.wg
  obtain ⟨ws, hws, hwl, hw1, hw2⟩ := hW.wb
  obtain ⟨ty, xv, htv⟩ := O.tvi c.ks.length
  have R0 := rd0_of (W := W) (ws := ws) (St := ((c.ks.length : Nat) : Int) * Go.ConcR.KK) S hsz
  have hSn : Sn c W ws (((c.ks.length : Nat) : Int) * Go.ConcR.KK) W := ⟨Nat.le_refl _, fun b _ _ _ => rfl, hws, hW.wg⟩
  have H₀ : Held Tryd.prog (c.X False) Vn 0 0 (c.γ + c.ks.length) (BysS t c) (fun g w => Head1 psv (.slice (some ⟨c.wb, 0, none⟩) n ncap) (.slice (some ⟨tp, to', none⟩) n cap) n c.ks.length c.wg c.ev cs g ∧ Sn c W ws (((c.ks.length : Nat) : Int) * Go.ConcR.KK) w ∧ ∀ x ∈ ([] : List (Nat × Obj)), w.heap[x.1]? = some x.2) (crowd gs W sl) T :=
    ⟨gs, W, sl, q, Rd, B, cn, g, rfl, hn, hg, ⟨hH, hSn, by simp⟩, hB, C⟩
  clear hH hB C hg hn
  -- the boxes
  refine (H₀.walk bysS_stb fun g w hK => ⟨30, h_boxes (X := c.X False) (Q := Sn c W ws (((c.ks.length : Nat) : Int) * Go.ConcR.KK)) R0.rl R0.fl R0.bx R0.low R0.al R0.set (ty := ty) (xv := xv) hi (fun w h => ?_) hstp cs g w hK.2 hK.1⟩).bind fun m₁ T₁ H₁ => ?_
  · rw [← htv]
    exact htk m0 w (O.old m0 W w (fun b hb => h.same b (by omega) (by omega) (by omega)) hW.tm) _ hi
  obtain ⟨bi, H₁⟩ := H₁.ex
  obtain ⟨bt, H₁⟩ := H₁.ex
  obtain ⟨lbi, H₁⟩ := H₁.and
  obtain ⟨lbt, H₁⟩ := H₁.and
  -- the drawn region
  refine (H₁.walk bysS_stb fun g w hK => ⟨30, h_lay (X := c.X False) (tv := .iface ty xv) R0 cs g w hK.2 hK.1⟩).bind fun m₂ T₂ H₂ => ?_
  obtain ⟨cr, H₂⟩ := H₂.ex
  obtain ⟨cp, H₂⟩ := H₂.ex
  obtain ⟨bs, H₂⟩ := H₂.ex
  obtain ⟨bw, H₂⟩ := H₂.ex
  -- the row of workers
  let r : Wk := ⟨bw, bt, bi, bs, cr, cp⟩
  have hrl : ∀ {ws' : Array Value} {s : Int} (w w' : World), (Sn c W ws' s w ∧ Made W.heap.size bi bt cr cp bs bw c.ks.length (.iface ty xv) w) → Ext Vn w w' → (Sn c W ws' s w' ∧ Made W.heap.size bi bt cr cp bs bw c.ks.length (.iface ty xv) w') := fun w w' h r => ⟨h.1.rl r, h.2.rl r⟩
  have nsh : ∀ {b : Nat}, W.heap.size ≤ b → ¬ (c.X False).Sh (.cell ⟨b, 0, none⟩) := fun {b} hb => S.nsh (b := b) (by omega) (by omega) rfl
  have hnil : ws[c.ks.length]? = some (.pointer none) := hw2 _ (Nat.le_refl _) hi
  refine (H₂.walk (K' := fun g w => (Sn c W (ws.set! c.ks.length (pb bs)) (((c.ks.length : Nat) : Int) * Go.ConcR.KK) w ∧ Made W.heap.size bi bt cr cp bs bw c.ks.length (.iface ty xv) w) ∧ ∃ T, Sl psv (.slice (some ⟨c.wb, 0, none⟩) n ncap) (.slice (some ⟨tp, to', none⟩) n cap) n c.ks.length c.wg c.ev bi bt bw T ∧ g = G (fRun T (.inRegion ops15 [0] :: .code (rt (rt (rt (rt blk1)))) :: todo1)) cs) bysS_stb fun g w hK => ⟨20, ?_⟩).bind fun m₃ T₃ H₃ => ?_
  · refine h_store (X := c.X False) (bs := bs) (bw := bw) (bi := bi) (bt := bt) (wb := c.wb) (Q := fun w => Sn c W ws (((c.ks.length : Nat) : Int) * Go.ConcR.KK) w ∧ Made W.heap.size bi bt cr cp bs bw c.ks.length (.iface ty xv) w) hrl hrl hi (fun w h => by simp [World.cell?, h.2.hbi]) (fun w h => by simp [World.cell?, h.2.hbw]) (nsh lbi) (fun h => nsh (b := bw) ?_ h) (fun w h => ⟨.pointer none, by simp [World.cell?, h.1.wb, hnil]⟩) (fun w h => by simp [World.frozen?, h.1.wb]) (fun w h es hes => ⟨?_, ?_, ?_⟩) cs g w hK.2 hK.1
    · exact hK.2.2.low.2.2.2
    · have hb := h.1.wb
      refine hdq_write ?_ ?_ ?_ (fun o => o.elim) (S.nsh swb.1 swb.2.2.1 rfl) (Array.getElem?_eq_some_iff.1 hb).1 ?_ hes
      · exact fun h => (S.st_ne h).2.2.2.1 rfl
      · rintro ⟨v, ty', hv', hbx, _⟩
        rw [hb] at hv'
        injection (Option.some.inj hv') with e1 e2
        rcases hbx with ⟨v1, e3, e | ⟨_, e⟩⟩ | e
        · rw [← e2] at e; cases e
        · rw [e1, e3] at hnil
          have : c.ks.length = 0 := by
            rcases Nat.eq_zero_or_pos c.ks.length with e | e
            · exact e
            · rw [Array.getElem?_eq_none (by simp; omega)] at hnil; cases hnil
          rw [this] at hnil
          simp at hnil
          exact e hnil
        · rw [← e2] at e; cases e
      · rintro x ⟨y, hy, e⟩ e'
        have rg := S.rng y hy
        rcases e with rfl | rfl
        · exact (rg y.cr (by simp [Wk.blocks])).2.2.2.1 e'
        · exact (rg y.cp (by simp [Wk.blocks])).2.2.2.1 e'
      · exact fun a ha => cell_of_block (heap_setCell_ne w _ _ (S.st_ne ha).2.2.2.1)
    · have hs := fun {b : Nat} (hb : b ≠ c.wb) => heap_setCell_ne w ⟨c.wb, c.ks.length, none⟩ (pb bs) hb
      refine ⟨by rw [size_setCell']; exact h.1.size, fun b hb h1 h2 => (hs h1).trans (h.1.same b hb h1 h2), ?_, ?_⟩
      · simp [World.setCell, Array.getElem?_modify, h.1.wb]
      · have := h.1.wg
        unfold Go.ConcR.WgAt at this ⊢
        rw [hs (Ne.symm swb.2.2.1)]
        exact this
    · have hs := fun {b : Nat} (hb : W.heap.size ≤ b) => heap_setCell_ne w ⟨c.wb, c.ks.length, none⟩ (pb bs) (b := b) (by show b ≠ c.wb; omega)
      have M := h.2
      exact ⟨(hs lbi).trans M.hbi, (hs lbt).trans M.hbt, (hs M.low.1).trans M.hcr, (hs M.low.2.1).trans M.hcp, (hs M.low.2.2.1).trans M.hbs, (hs M.low.2.2.2).trans M.hbw, M.ne, M.low⟩
  -- Add
  have hex : Lands Tryd.prog m₃ T₃ (fun m' T' => ∃ Ts, Sl psv (.slice (some ⟨c.wb, 0, none⟩) n ncap) (.slice (some ⟨tp, to', none⟩) n cap) n c.ks.length c.wg c.ev bi bt bw Ts ∧ Ts.getD 49 undef = .func (.func 16) #[] #[pb c.wg, pb bw, pb bt, pb c.ev, pb bi] ∧
      Held Tryd.prog (c.X False) Vn 0 0 (c.γ + c.ks.length) (BysS t c) (fun g w => g = G (fRun Ts (.inRegion opsGo [1] :: todo1)) cs ∧ Sn c W (ws.set! c.ks.length (pb bs)) (((c.ks.length : Nat) + 1 : Int) * Go.ConcR.KK) w ∧ Made W.heap.size bi bt cr cp bs bw c.ks.length (.iface ty xv) w) m' T') := by
    have H₃' := (H₃.mono (K' := fun g w => ∃ T, Sl psv (.slice (some ⟨c.wb, 0, none⟩) n ncap) (.slice (some ⟨tp, to', none⟩) n cap) n c.ks.length c.wg c.ev bi bt bw T ∧ (g = G (fRun T (.inRegion ops15 [0] :: .code (rt (rt (rt (rt blk1)))) :: todo1)) cs ∧ (Sn c W (ws.set! c.ks.length (pb bs)) (((c.ks.length : Nat) : Int) * Go.ConcR.KK) w ∧ Made W.heap.size bi bt cr cp bs bw c.ks.length (.iface ty xv) w))) (fun g w h => by obtain ⟨h1, T, h2, h3⟩ := h; exact ⟨T, h2, h3, h1⟩) (fun _ _ h => h)).ex
    obtain ⟨Ts, H₃'⟩ := H₃'
    obtain ⟨hSl, H₃'⟩ := H₃'.and
    let K : World → Prop := fun w => (W.heap.size ≤ w.heap.size ∧ (∀ b, b < W.heap.size → b ≠ c.wb → b ≠ c.wg → w.heap[b]? = W.heap[b]?) ∧ w.heap[c.wb]? = some (.cells (ws.set! c.ks.length (pb bs)) 63 (0, 0))) ∧ Made W.heap.size bi bt cr cp bs bw c.ks.length (.iface ty xv) w
    have hKr : ∀ w w', Rz w w' → K w → K w' := fun w w' r h => ⟨⟨Nat.le_trans h.1.1 r.size, fun b hb h1 h2 => (r.same b (Nat.lt_of_lt_of_le hb h.1.1) id).trans (h.1.2.1 b hb h1 h2), (r.same _ (Array.getElem?_eq_some_iff.1 h.1.2.2).1 id).trans h.1.2.2⟩, h.2.rl r⟩
    have hKs : ∀ w x, K w → K (w.setCell (Go.ConcR.stA c.wg) x) := fun w x h => by
      have hs := fun {b : Nat} (hb : b ≠ c.wg) => heap_setCell_ne w (Go.ConcR.stA c.wg) x hb
      have hs' := fun {b : Nat} (hb : W.heap.size ≤ b) => hs (b := b) (by omega)
      have M := h.2
      exact ⟨⟨by rw [size_setCell']; exact h.1.1, fun b hb h1 h2 => (hs h2).trans (h.1.2.1 b hb h1 h2), (hs swb.2.2.1).trans h.1.2.2⟩, (hs' lbi).trans M.hbi, (hs' lbt).trans M.hbt, (hs' M.low.1).trans M.hcr, (hs' M.low.2.1).trans M.hcp, (hs' M.low.2.2.1).trans M.hbs, (hs' M.low.2.2.2).trans M.hbw, M.ne, M.low⟩
    have hKc : ∀ w, K w → ∀ x, (c.X False).Ch x → x ≠ c.wg := by
      rintro w _ x ⟨y, hy, e⟩
      have rg := S.rng y hy
      rcases e with rfl | rfl
      · exact (rg y.cr (by simp [Wk.blocks])).2.2.1
      · exact (rg y.cp (by simp [Wk.blocks])).2.2.1
    refine (add_round S bysS_stb (by omega) hKr hKs hKc hSl.s8 (H₃'.mono (fun g w h => ⟨h.1, h.2.1.wg, ⟨h.2.1.size, h.2.1.same, h.2.1.wb⟩, h.2.2⟩) (fun _ _ h => h))).bind fun m₄ T₄ H₄ => ?_
    refine (H₄.walk (K' := fun g w => ∃ T, Sl psv (.slice (some ⟨c.wb, 0, none⟩) n ncap) (.slice (some ⟨tp, to', none⟩) n cap) n c.ks.length c.wg c.ev bi bt bw T ∧ T.getD 49 undef = .func (.func 16) #[] #[pb c.wg, pb bw, pb bt, pb c.ev, pb bi] ∧ g = G (fRun T (.inRegion opsGo [1] :: todo1)) cs ∧ Sn c W (ws.set! c.ks.length (pb bs)) (((c.ks.length : Nat) + 1 : Int) * Go.ConcR.KK) w ∧ Made W.heap.size bi bt cr cp bs bw c.ks.length (.iface ty xv) w) bysS_stb fun g w hK => ⟨8, ?_⟩).mono fun m' T' H => ?_
    · obtain ⟨rfl, hwg, hK1, hK2⟩ := hK
      refine goes_imp (fun _ _ x => x) (fun _ _ _ x => x) (fun g w h => ?_) (h_go (X := c.X False) (R := Ext Vn) (Q := fun w => Sn c W (ws.set! c.ks.length (pb bs)) (((c.ks.length : Nat) + 1 : Int) * Go.ConcR.KK) w ∧ Made W.heap.size bi bt cr cp bs bw c.ks.length (.iface ty xv) w) hrl cs w ⟨⟨hK1.1, hK1.2.1, hK1.2.2, hwg⟩, hK2⟩ Ts hSl)
      obtain ⟨h1, T, h2, h3, h4⟩ := h
      exact ⟨T, h2, h3, h4, h1⟩
    · obtain ⟨T, H⟩ := H.ex
      obtain ⟨h1, H⟩ := H.and
      obtain ⟨h2, H⟩ := H.and
      exact ⟨T, h1, h2, H⟩
  refine hex.bind fun m₄ T₄ h => ?_
  obtain ⟨Ts, hSl, h49, gs, w, sl, q, Rd, B, cn, g, rfl, hn, hg, ⟨rfl, hS, hM⟩, hB, C⟩ := h
  -- the go statement
  have hr : ∀ b ∈ r.blocks, W.heap.size ≤ b ∧ b < w.heap.size := by
    intro b hb
    simp only [Wk.blocks, r, List.mem_cons, List.not_mem_nil, or_false] at hb
    have lt : ∀ {b : Nat} {o : Obj}, w.heap[b]? = some o → b < w.heap.size := fun h => (Array.getElem?_eq_some_iff.1 h).1
    rcases hb with rfl | rfl | rfl | rfl | rfl | rfl
    · exact ⟨hM.low.2.2.2, lt hM.hbw⟩
    · exact ⟨lbt, lt hM.hbt⟩
    · exact ⟨lbi, lt hM.hbi⟩
    · exact ⟨hM.low.2.2.1, lt hM.hbs⟩
    · exact ⟨hM.low.1, lt hM.hcr⟩
    · exact ⟨hM.low.2.1, lt hM.hcp⟩
  have S' : Rs (c.more r w.heap.size) := S.more hsz hS.size hr hM.ne
  have hSW : SW t (c.more r w.heap.size) n m0 u w := hW.more S O hi hws hS (by rw [htv]; exact hM) (Nat.le_refl _) hr
  have C' : Crew Tryd.prog ((c.more r w.heap.size).X False) Vn 0 0 B Rd cn T₄ gs w q := by
    refine C.widen (cn' := cn) (fun a ⟨x, hx, e⟩ => ⟨x, by simp [Rc.more, hx], e⟩) rfl rfl rfl (fun a ⟨x, hx, e⟩ => ⟨x, by simp [Rc.more, hx], e⟩) (fun a ha => ⟨fun o => o.elim, ?_⟩) (fun _ _ h => h) (fun o => o.elim) (fun o => o.elim) (fun i s hi0 e => ?_)
    · obtain ⟨x, hx, e⟩ := ha
      obtain ⟨k, hk⟩ := List.getElem?_of_mem hx
      have a := hSW.wk k x hk
      rcases e with rfl | rfl | rfl | rfl | rfl
      · exact ⟨_, by simp [World.cell?, a.hbw]; rfl⟩
      · exact ⟨_, by simp [World.cell?, a.hbt]; rfl⟩
      · exact ⟨_, by simp [World.cell?, a.hbi]; rfl⟩
      · exact ⟨_, by simp [World.cell?, a.hbs]; rfl⟩
      · exact ⟨_, by simp [World.cell?, a.hbs]; rfl⟩
    · by_cases h1 : i < c.γ ∨ c.γ + c.ks.length ≤ i
      · rw [hB.1 i (by omega) h1] at e; cases e
      · obtain ⟨k', rfl⟩ : ∃ k', i = c.γ + k' := ⟨i - c.γ, by omega⟩
        obtain ⟨r', hk'⟩ : ∃ r', c.ks[k']? = some r' := ⟨_, List.getElem?_eq_getElem (show k' < c.ks.length by omega)⟩
        rw [hB.2 k' r' hk'] at e; cases e
  have hrm : r ∈ (c.more r w.heap.size).ks := by simp [Rc.more]
  have hget : (c.more r w.heap.size).ks[c.ks.length]? = some r := by simp [Rc.more]
  have M := hSW.wk c.ks.length r hget
  obtain ⟨nW, hWay⟩ := w_birth c.wg bw bt c.ev bi bs cr cp (t.tv c.ks.length) (c.ks.length : Int) (t.home (c.more r w.heap.size) r c.ks.length (t.l0 c.ks.length)) (fun b1 b2 => ⟨b1, b2, fun _ _ => False, (funext fun a => funext fun v => propext ⟨.inl, fun h => h.elim id False.elim⟩), O.birth r c.wg c.ev c.ks.length b1 b2⟩)
  have hst : ∀ a v, Lean0 bw bt bi bs cr cp (t.tv c.ks.length) (c.ks.length : Int) a v → w.cell? a = some v ∧ (c.more r w.heap.size).St a := by
    intro a v h
    rcases h with ⟨rfl, rfl⟩ | ⟨rfl, rfl⟩ | ⟨rfl, rfl⟩ | ⟨rfl, rfl⟩ | ⟨rfl, rfl⟩
    · exact ⟨by simp [World.cell?, M.hbw, r], r, hrm, .inl rfl⟩
    · exact ⟨by have := M.hbt; simp only [r] at this; simp [World.cell?, this], r, hrm, .inr (.inl rfl)⟩
    · exact ⟨by have := M.hbi; simp only [r] at this; simp [World.cell?, this], r, hrm, .inr (.inr (.inl rfl))⟩
    · exact ⟨by have := M.hbs; simp only [r] at this; simp [World.cell?, this], r, hrm, .inr (.inr (.inr (.inl rfl)))⟩
    · exact ⟨by have := M.hbs; simp only [r] at this; simp [World.cell?, this], r, hrm, .inr (.inr (.inr (.inr rfl)))⟩
  have hs1 : ∀ i z home, i ≠ 0 → B i ≠ .seat cr z home := by
    intro i z home hi0 e
    by_cases h1 : i < c.γ ∨ c.γ + c.ks.length ≤ i
    · rw [hB.1 i (by omega) h1] at e; cases e
    · obtain ⟨k', rfl⟩ : ∃ k', i = c.γ + k' := ⟨i - c.γ, by omega⟩
      obtain ⟨r', hk'⟩ : ∃ r', c.ks[k']? = some r' := ⟨_, List.getElem?_eq_getElem (show k' < c.ks.length by omega)⟩
      rw [hB.2 k' r' hk'] at e
      injection e with e1
      have h2 := (S.rng r' (mem_of_get hk') r'.cr (by simp [Wk.blocks])).2.1
      have h3 := hM.low.1
      omega
  have hs2 : ∀ a v, Lean0 bw bt bi bs cr cp (t.tv c.ks.length) (c.ks.length : Int) a v → ¬ ((c.more r w.heap.size).X False).Sh (.cell a) := by
    intro a v h
    obtain ⟨x, hx, e⟩ := (hst a v h).2
    have rg := S'.rng x hx
    have key : ∀ b ∈ x.blocks, a.block = b → ¬ ((c.more r w.heap.size).X False).Sh (.cell a) := fun b hb e => S'.nsh (on := False) (rg b hb).1 (rg b hb).2.2.1 e
    rcases e with rfl | rfl | rfl | rfl | rfl <;> exact key _ (by simp [Wk.blocks]) rfl
  obtain ⟨N, gs', w', sl', T', q', Rd', B₁, cn', hrun, hsz', hg', hRw, hExt, hEnv, hlat, C''⟩ := C'.hire (sl := sl) (rely_ext Vn B 0) (fun _ _ _ x y => x.trans y) hg rfl (fun w₁ _ => go_spawn c.wg bw bt c.ev bi Ts h49 cs w₁) (c := cr) (L := Lean0 bw bt bi bs cr cp (t.tv c.ks.length) (c.ks.length : Int)) (fun o => o) ⟨r, hrm, .inl rfl⟩ ⟨0, hM.hcr⟩ hs1 (fun a v h => ⟨(hst a v h).1, .inl (hst a v h).2, hs2 a v h⟩) hWay
  · have H₅ : Held Tryd.prog ((c.more r w.heap.size).X False) Vn 0 0 (c.γ + (c.ks.length + 1)) (BysS t (c.more r w.heap.size)) (fun g w' => g = G (fRun Ts (.inRegion opsGo [] :: todo1)) cs ∧ SW t (c.more r w.heap.size) n m0 u w') (crowd gs' w' sl') T' := by
      refine ⟨gs', w', sl', q', Rd', _, cn', _, rfl, by omega, hg', ⟨rfl, hSW.ext S' O hExt⟩, ?_, ⟨C'', C.sys.of hEnv.io⟩⟩
      have hB₁ := bysS_stb (t := t) (c := c) _ _ _ _ hB hlat
      have hlen : (c.more r w.heap.size).ks.length = c.ks.length + 1 := by simp [Rc.more]
      refine ⟨fun j hj hj' => ?_, fun k x hk => ?_⟩
      · rw [hlen] at hj'
        rw [upd_ne _ _ (by have : (c.more r w.heap.size).γ = c.γ := rfl; omega)]
        exact hB₁.1 j hj (by have : (c.more r w.heap.size).γ = c.γ := rfl; omega)
      · rcases more_get hk with hk' | ⟨rfl, rfl⟩
        · have := (List.getElem?_eq_some_iff.1 hk').1
          rw [upd_ne _ _ (by have : (c.more r w.heap.size).γ = c.γ := rfl; omega)]
          exact hB₁.2 k x hk'
        · rw [show (c.more r w.heap.size).γ + c.ks.length = gs.size from hn.symm, upd_same]
    refine Lands.bind ⟨N, _, _, hrun, H₅⟩ fun m₅ T₅ H₅ => (H₅.walk (K' := fun g w' => Head1 psv (.slice (some ⟨c.wb, 0, none⟩) n ncap) (.slice (some ⟨tp, to', none⟩) n cap) n (c.ks.length + 1) c.wg c.ev cs g ∧ SW t (c.more r w.heap.size) n m0 u w') bysS_stb fun g w' hK => ⟨0 + 7, ?_⟩).mono fun m' T' H => ⟨r, w.heap.size, S', H⟩
    obtain ⟨rfl, hQ⟩ := hK
    exact h_next (X := (c.more r w.heap.size).X False) (R := Ext Vn) (Q := SW t (c.more r w.heap.size) n m0 u) (fun w w' h r => h.ext S' O r) hi hn63 cs w' hQ Ts hSl.sz hSl.s0 hSl.s7 hSl.s6 hSl.s8 hSl.s33 hSl.s34 hSl.s35 fun g w hg h => Goes.stop fun w' r => ⟨hg, h.ext S' O r⟩
end
end

/-! ### CwY8 -/
section
set_option linter.unusedSimpArgs false
open Go Go.Conc Go.RowKit Go.ConcR.Gen Cw
open Go.ConcN (sumTo upd upd_same upd_ne sumTo_upd sumTo_congr le_sumTo WgLive)

def Rc.to (c : Rc) (ks : List Wk) (B : Nat) : Rc := { c with ks := ks, B₀ := B }
theorem sum_ones (γ n : Nat) : ∀ m, m ≤ n → sumTo (γ + m) (fun x => if γ ≤ x ∧ x < γ + n then 1 else 0) = m
  | 0, _ => by
    have : ∀ m, m ≤ γ → sumTo m (fun x => if γ ≤ x ∧ x < γ + n then 1 else 0) = 0 := by
      intro m
      induction m with
      | zero => intro _; rfl
      | succ m ih => intro h; rw [sumTo, ih (by omega), if_neg (by omega)]
    exact this γ (Nat.le_refl _)
  | m + 1, h => by
    rw [← Nat.add_assoc, sumTo, sum_ones γ n m (by omega), if_pos (by omega)]
section
variable {t : Tasks} {c : Rc} {Sh0 : Loc → Prop} {n : Nat} {m0 : t.M} {u : Value}
theorem spawn_loop [Ref] (O : TasksOk t c.N₀ Sh0) (hn63 : n < 9223372036854775807) (hv : n < 2147483646) {tkv : Value} {tp to' cap ncap : Nat} {psv : Value} {cs : List Frame} (htv : n = 0 ∨ tkv = .slice (some ⟨tp, to', none⟩) n cap) (htk : ∀ m w, t.Tm m w → ∀ k, k < n → w.cell? ⟨tp, to' + k, none⟩ = some (t.tv k)) (hstp : ∀ k, ¬ c.Sh (.cell ⟨tp, k, none⟩)) :
    ∀ (d : Nat) (ks : List Wk) (B : Nat) (m : Machine) (T : Trace), ks.length + d = n → Rs (c.to ks B) → Held Tryd.prog ((c.to ks B).X False) Vn 0 0 (c.γ + ks.length) (BysS t (c.to ks B)) (fun g w => Head1 psv (.slice (some ⟨c.wb, 0, none⟩) n ncap) tkv n ks.length c.wg c.ev cs g ∧ SW t (c.to ks B) n m0 u w) m T →
      Lands Tryd.prog m T (fun m' T' => ∃ ks B, ks.length = n ∧ Rs (c.to ks B) ∧ Held Tryd.prog ((c.to ks B).X False) Vn 0 0 (c.γ + n) (BysS t (c.to ks B)) (fun g w => Head1 psv (.slice (some ⟨c.wb, 0, none⟩) n ncap) tkv n n c.wg c.ev cs g ∧ SW t (c.to ks B) n m0 u w) m' T')
  | 0, ks, B, m, T, hd, S, H => by
    obtain rfl : ks.length = n := by omega
    exact Lands.done ⟨ks, B, rfl, S, H⟩
  | d + 1, ks, B, m, T, hd, S, H => by
    obtain rfl : tkv = .slice (some ⟨tp, to', none⟩) n cap := htv.resolve_left (by omega)
    refine (spawn_round (c := c.to ks B) S O (show ks.length < n by omega) hn63 hv htk hstp H).bind fun m' T' h => ?_
    obtain ⟨r, B₁, S', H'⟩ := h
    refine spawn_loop O hn63 hv htv htk hstp d (ks ++ [r]) B₁ m' T' (by simp; omega) S' ?_
    rw [show (ks ++ [r]).length = ks.length + 1 by simp]
    exact H'
/-- The state at the beginning. -/
def Tasks.s0 (t : Tasks) (m0 : t.M) : Sst t := ⟨fun _ => false, t.l0, m0, []⟩
/-- .. and at the end. -/
def Tasks.fin (t : Tasks) (m0 : t.M) (n : Nat) (ps : List Nat) : Sst t := t.drains (List.range' 0 n) (ps.foldl (fun s k => t.step k s) (t.s0 m0))
theorem fits_widen [Ref] (S : Rs c) (hn : c.ks.length < 2147483647) {K K' : Goroutine → World → Prop} (hK : ∀ g w, K g w → SW t c c.ks.length m0 u w) (hK' : ∀ g w, K g w → K' g w) {m : Machine} {T : Trace}
    (H : Held Tryd.prog (c.X False) Vn 0 0 (c.γ + c.ks.length) (BysS t c) K m T) : Held Tryd.prog (c.X True) c.V 0 0 (c.γ + c.ks.length) (Bys t c (t.s0 m0) none) K' m T := by
  obtain ⟨gs, w, sl, q, Rd, B, cn, g, rfl, hgs, hg, hk, hB, C⟩ := H
  have W := hK g w hk
  have one := S.one
  have hsum : sumTo gs.size (fun x => if c.γ ≤ x ∧ x < c.γ + c.ks.length then 1 else 0) = c.ks.length := by rw [hgs]; exact sum_ones c.γ c.ks.length c.ks.length (Nat.le_refl _)
  refine ⟨gs, w, sl, q, Rd, B, fun x => if c.γ ≤ x ∧ x < c.γ + c.ks.length then 1 else 0, g, rfl, hgs, hg, hK' g w hk, ⟨if_neg (by omega), hB.1, fun k r hr _ => ⟨fun _ => ⟨hB.2 k r hr, if_pos ?_⟩, fun h => by cases h⟩⟩, ⟨?_, C.sys⟩⟩
  · have := (List.getElem?_eq_some_iff.1 hr).1
    omega
  · refine C.widen (X' := c.X True) (fun a h => h) rfl rfl rfl (fun a h => h) (fun a ha => ⟨fun _ => (S.st_ne ha).2.2.1, ?_⟩) ?_ (fun _ => S.shw) (fun _ => ⟨?_, fun i hi e => ?_, ?_⟩) (fun i s hi0 e => ?_)
    · obtain ⟨x, hx, e⟩ := ha
      obtain ⟨k, hk⟩ := List.getElem?_of_mem hx
      have a := W.wk k x hk
      rcases e with rfl | rfl | rfl | rfl | rfl
      · exact ⟨_, by simp [World.cell?, a.hbw]; rfl⟩
      · exact ⟨_, by simp [World.cell?, a.hbt]; rfl⟩
      · exact ⟨_, by simp [World.cell?, a.hbi]; rfl⟩
      · exact ⟨_, by simp [World.cell?, a.hbs]; rfl⟩
      · exact ⟨_, by simp [World.cell?, a.hbs]; rfl⟩
    · rintro x ⟨y, hy, e⟩ hv
      have rg := S.rng y hy
      have hv' : x = c.wg := hv
      rcases e with rfl | rfl
      · exact (rg y.cr (by simp [Wk.blocks])).2.2.1 hv'
      · exact (rg y.cp (by simp [Wk.blocks])).2.2.1 hv'
    · rw [hsum]; exact W.wg
    · refine if_neg fun h => ?_
      obtain ⟨k', rfl⟩ : ∃ k', i = c.γ + k' := ⟨i - c.γ, by omega⟩
      obtain ⟨r', hk'⟩ : ∃ r', c.ks[k']? = some r' := ⟨_, List.getElem?_eq_getElem (show k' < c.ks.length by omega)⟩
      rw [hB.2 k' r' hk'] at e; cases e
    · rw [hsum]; exact hn
    · by_cases h1 : i < c.γ ∨ c.γ + c.ks.length ≤ i
      · rw [hB.1 i (by omega) h1] at e; cases e
      · obtain ⟨k', rfl⟩ : ∃ k', i = c.γ + k' := ⟨i - c.γ, by omega⟩
        obtain ⟨r', hk'⟩ : ∃ r', c.ks[k']? = some r' := ⟨_, List.getElem?_eq_getElem (show k' < c.ks.length by omega)⟩
        rw [hB.2 k' r' hk'] at e; cases e
theorem qm_of_sw (S : Rs c) {w : World} (W : SW t c c.ks.length m0 u w) : QM t c (t.s0 m0).en (t.s0 m0).m (t.s0 m0).E w := by
  obtain ⟨ws, h1, _, h3, _⟩ := W.wb
  exact ⟨⟨W.wk, ⟨ws, h1, h3⟩, W.tm, W.size⟩, u, W.evc, W.evr, fun g hg => S.ok_of (W.uo g hg).1 (W.uo g hg).2.2.1 (W.uo g hg).2.2.2.2⟩
theorem en_fold (k' : Nat) : ∀ (l : List Nat) (s : Sst t), s.en k' = true → (l.foldl (fun s k => t.step k s) s).en k' = true
  | [], _, h => h
  | k :: l, s, h => en_fold k' l _ (en_step k k' s h)
/-- What a call has done. -/
def Done (t : Tasks) (N₀ wg : Nat) (s : Sst t) (u : Value) (w : World) : Prop := t.Tm s.m w ∧ w.ownsRow N₀ 70 2 u s.E.length (evCells s.E) ∧ N₀ ≤ w.heap.size ∧ WgLive link.tWg wg w
/-- FROM THE HEAD OF THE SPAWN LOOP TO THE RETURN. -/
theorem run_loops [Ref] (O : TasksOk t c.N₀ Sh0) (hS0 : ∀ a, c.Sh (.cell a) → Sh0 (.cell a) ∨ c.N₀ ≤ a.block) (hv : n < 2147483646) (hKb : (sumTo n (fun k => t.rk k (t.l0 k)) + 1) * 1024 ≤ 140737488355328) (hI : t.InvS (t.s0 m0))
    {tkv : Value} {tp to' tcap : Nat} (htv : n = 0 ∨ tkv = .slice (some ⟨tp, to', none⟩) n tcap) (htk : ∀ m w, t.Tm m w → ∀ k, k < n → w.cell? ⟨tp, to' + k, none⟩ = some (t.tv k)) (hstp : ∀ k, ¬ c.Sh (.cell ⟨tp, k, none⟩))
    {a : Option Addr} {p o cap ncap : Nat} {ps : List Nat} (hpv : ps = [] ∨ a = some ⟨p, o, none⟩) (hps : ∀ i ∈ ps, i < n) (hn : ps.length < 9223372036854775807)
    (hpk : ∀ m w, t.Tm m w → ∀ (j i : Nat), ps[j]? = some i → w.cell? ⟨p, o + j, none⟩ = some (.int .i64 i)) (hsp : ∀ i, ¬ c.Sh (.cell ⟨p, i, none⟩))
    (hks : c.ks = []) (S : Rs c) {b₀ : Frame} {a₀ : Act} {ops : Array Oper} {j : Nat} {rest : List Nat} {kk : List Item} {cs : List Frame} {m : Machine} {T : Trace}
    (H : Held Tryd.prog (c.X False) Vn 0 0 c.γ (BysS t c) (fun g w => Head1 (.slice a ps.length cap) (.slice (some ⟨c.wb, 0, none⟩) n ncap) tkv n 0 c.wg c.ev (b₀.at a₀ (.inRegion ops (j :: rest) :: kk) :: cs) g ∧ SW t c n m0 u w) m T) :
    Lands Tryd.prog m T (Held Tryd.prog (Cx0 c.Sh) Vn 0 0 (c.γ + n) Gone (fun g w => ∃ u, g = G (b₀.at (a₀.put ((ops[j]?).bind (·.dst)) (.tuple #[u, .int .i64 0])) (.inRegion ops rest :: kk)) cs ∧ Done t c.N₀ c.wg (t.fin m0 n ps) u w)) := by
  have hc : c = c.to [] c.B₀ := by rw [← hks]; rfl
  have H' : Held Tryd.prog ((c.to [] c.B₀).X False) Vn 0 0 (c.γ + ([] : List Wk).length) (BysS t (c.to [] c.B₀)) (fun g w => Head1 (.slice a ps.length cap) (.slice (some ⟨c.wb, 0, none⟩) n ncap) tkv n ([] : List Wk).length c.wg c.ev (b₀.at a₀ (.inRegion ops (j :: rest) :: kk) :: cs) g ∧ SW t (c.to [] c.B₀) n m0 u w) m T := by
    rw [← hc]; exact H
  refine (spawn_loop O (by omega) hv htv htk hstp n [] c.B₀ m T (by simp) (hc ▸ S) H').bind fun m₁ T₁ h => ?_
  obtain ⟨ks, B, rfl, S₁, H₁⟩ := h
  have O₁ : TasksOk t (c.to ks B).N₀ Sh0 := O
  have CL : Cl t (c.to ks B) Sh0 (sumTo ks.length (fun k => t.rk k (t.l0 k))) := ⟨S₁, O₁, hS0, hKb, by show ks.length < _; omega⟩
  -- the loop is over
  refine (H₁.walk (K' := fun g w => Head2 (.slice (some ⟨c.wb, 0, none⟩) ks.length ncap) (.slice a ps.length cap) ps.length 0 c.wg c.ev (b₀.at a₀ (.inRegion ops (j :: rest) :: kk) :: cs) g ∧ SW t (c.to ks B) ks.length m0 u w) bysS_stb fun g w hK => ⟨0 + 16, ?_⟩).bind fun m₂ T₂ H₂ => ?_
  · exact h_end (X := (c.to ks B).X False) (R := Ext Vn) (Q := SW t (c.to ks B) ks.length m0 u) (fun w w' h r => h.ext S₁ O₁ r) _ g w hK.2 hK.1 fun g w hg h => Goes.stop fun w' r => ⟨hg, h.ext S₁ O₁ r⟩
  have H₃ : MS t (c.to ks B) (t.s0 m0) (Head2 (.slice (some ⟨c.wb, 0, none⟩) ks.length ncap) (.slice a ps.length cap) ps.length 0 c.wg c.ev (b₀.at a₀ (.inRegion ops (j :: rest) :: kk) :: cs)) m₂ T₂ :=
    fits_widen S₁ (by show ks.length < _; omega) (fun g w h => h.2) (fun g w h => ⟨h.1, qm_of_sw S₁ h.2⟩) H₂
  refine (picks_loop (c := c.to ks B) CL (psv := .slice a ps.length cap) (ncap := ncap) (cap := cap) (hpv.imp id fun e => by rw [e]) hps hn hpk hsp ps.length 0 (by omega) (t.s0 m0) m₂ T₂ ⟨by show 0 + _ ≤ _; rw [Nat.zero_add]; exact Nat.le_refl _, hI⟩ H₃).bind fun m₃ T₃ h => ?_
  obtain ⟨hp, H₄⟩ := h
  rw [List.drop_zero] at hp H₄
  refine (drains_loop (c := c.to ks B) CL ks.length 0 (by show 0 + ks.length = ks.length; omega) _ m₃ T₃ (fun i hi => absurd hi (by omega)) hp H₄).bind fun m₄ T₄ h => ?_
  obtain ⟨hen, H₅⟩ := h
  refine (run_tail (c := c.to ks B) CL hen H₅).mono fun m' T' H => H.mono (fun g w h => ?_) (fun _ _ h => h)
  obtain ⟨u, rfl, hL⟩ := h
  exact ⟨u, rfl, hL.1, hL.2.2.1, Nat.le_trans S₁.lt hL.2.2.2.1, hL.2.2.2.2⟩
end
end
end Go.Proofs.YtggfcdhkgldbfaaDoor
