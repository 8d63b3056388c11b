/-
  PARTS of a claim, merged by segs.py: NwY6.
-/
import Derived.Test.YtggfcdhkgldbfaaN22
namespace Go.Proofs.Ytggfcdhkgldbfaa
set_option linter.unusedSimpArgs false
set_option linter.unusedVariables false

/-! ### NwY6 -/
section
set_option linter.unusedSimpArgs false
open Go Go.Conc Go.RowKit Go.ConcR.Gen Cw
open Go.ConcN (sumTo upd upd_same upd_ne sumTo_upd sumTo_congr le_sumTo WgLive)

/-- The world at the head of a spawn round. -/
structure SW (t : Tasks) (c : Rc) (n : Nat) (m0 : t.M) (u : Value) (w : World) : Prop where
  wk : ∀ (k : Nat) (r : Wk), c.ks[k]? = some r → WkAt r k (t.tv k) false w
  wb : ∃ ws : Array Value, w.heap[c.wb]? = some (.cells ws 67 (0, 0)) ∧ ws.size = n ∧ (∀ (k : Nat) (r : Wk), c.ks[k]? = some r → ws[k]? = some (pb r.bs)) ∧ ∀ k, c.ks.length ≤ k → k < n → ws[k]? = some (.pointer none)
  tm : t.Tm m0 w
  size : c.B₀ ≤ w.heap.size
  wg : Go.ConcR.WgAt link.tWg c.wg w ((c.ks.length : Nat) * Go.ConcR.KK) 0
  evc : w.heap[c.ev]? = some (.cells #[u] 28 (0, 0))
  evr : w.ownsRow 0 40 2 u 0 []
  shg : ∀ a, c.Sh (.cell a) → a.block < c.N₀ ∨ a.block = c.wg
  uo : ∀ g, u.ownBlock = some g → c.N₀ ≤ g ∧ g < c.B₁ ∧ g ≠ c.wg ∧ g ≠ c.wb ∧ ∀ r ∈ c.ks, g ∉ r.blocks
def BysS (t : Tasks) (c : Rc) (B : Nat → By) (cn : Nat → Nat) : Prop :=
  c.FB B cn ∧ (∀ j, c.γ + c.ks.length ≤ j → B j = .gone) ∧ ∀ (k : Nat) (r : Wk), c.ks[k]? = some r → B (c.γ + k) = .seat r.cr (.agg #[]) (t.home c r k (t.l0 k))
/-- The world of the round's beginning, but for the row of workers and the group. -/
structure Sn (c : Rc) (W : World) (ws : Array Value) (S : Int) (w : World) : Prop where
  size : W.heap.size ≤ w.heap.size
  same : ∀ b, b < W.heap.size → b ≠ c.wb → b ≠ c.wg → ¬ c.FV b → w.heap[b]? = W.heap[b]?
  wb : w.heap[c.wb]? = some (.cells ws 67 (0, 0))
  wg : Go.ConcR.WgAt link.tWg c.wg w S 0
section
variable {t : Tasks} {c : Rc} {n : Nat} {m0 : t.M} {u : Value} {W w w' : World} {ws : Array Value} {St : Int}
theorem bysS_stb (S : Rs c) : Stb c.h (BysS t c) := fun B cn B' cn' hB hl => by
  refine ⟨S.fb.st c.h B cn B' cn' (.inl rfl) hB.1 hl, fun j hj' => ?_, fun k r hk => hl.seat.2 (hB.2.2 k r hk)⟩
  rcases hl.le j with e | ⟨⟨s, e⟩, _⟩
  · rw [e]; exact hB.2.1 j hj'
  · rw [hB.2.1 j hj'] at e; cases e
theorem Sn.rl (S : Rs c) (h : Sn c W ws St w) (r : Rz c.FV w w') : Sn c W ws St w' := by
  refine ⟨Nat.le_trans h.size r.size, fun b hb h1 h2 h3 => (r.same b (Nat.lt_of_lt_of_le hb h.size) h3).trans (h.same b hb h1 h2 h3), (r.same _ (Array.getElem?_eq_some_iff.1 h.wb).1 (S.nfv S.wb.1)).trans h.wb, ?_⟩
  have := h.wg
  unfold Go.ConcR.WgAt at this ⊢
  rw [r.same _ (Array.getElem?_eq_some_iff.1 this).1 (S.nfv S.wg.1)]
  exact this
theorem Sn.alloc (S : Rs c) (h : Sn c W ws St w) (o : Obj) : Sn c W ws St (w.alloc o) := h.rl S (Ext.alloc _ w o)
theorem Sn.set (h : Sn c W ws St w) {b : Nat} (hb : W.heap.size ≤ b) (hwb : c.wb < W.heap.size) (hwg : c.wg < W.heap.size) (v : Value) : Sn c W ws St (w.setCell ⟨b, 0, none⟩ v) := by
  have hs := fun {x : Nat} (hx : x ≠ b) => heap_setCell_ne w ⟨b, 0, none⟩ v hx
  refine ⟨by rw [size_setCell']; exact h.size, fun x hx h1 h2 h3 => (hs (by omega)).trans (h.same x hx h1 h2 h3), (hs (by omega)).trans h.wb, ?_⟩
  have := h.wg
  unfold Go.ConcR.WgAt at this ⊢
  rw [hs (by omega)]
  exact this
theorem Rs.floorN (S : Rs c) {N : Nat} (h : c.B₀ ≤ N) : Floor (c.X False) c.FV N := by
  have F := S.floor (on := False)
  exact ⟨fun a ha => Nat.lt_of_lt_of_le (F.st a ha) h, fun a ha => Nat.lt_of_lt_of_le (F.ch a ha) h, fun x o => Nat.lt_of_lt_of_le (F.wg x o) h, fun a ha => Nat.lt_of_lt_of_le (F.sh a ha) h, fun b hb => Nat.lt_of_lt_of_le (F.v b (.inr hb)) h, fun a ha => Nat.lt_of_lt_of_le (F.ex a ha) h⟩
theorem rd0_of (S : Rs c) (hN : c.B₀ ≤ W.heap.size) : Rd0 (c.X False) c.FV (Sn c W ws St) W.heap.size := by
  have h1 := S.wb
  have h2 := S.wg
  have h3 := S.b10
  exact ⟨fun w w' h r => h.rl S r, S.floorN hN, rfl, fun w h => h.size, fun w o h => h.alloc S o, fun w b v hb h => h.set hb (by omega) (by omega) v, fun w d h => h.rl S (Ext.at _ w d)⟩
/-- A word of the group's, said by the holder. -/
theorem hd_mark0 (X : Cx) (w : World) {m : Mark} (hr : ∀ a, m ≠ .release a) (hl : (MemAct.mark m).low w.heap.size) (ht : ∀ x, (MemAct.mark m).touch? = some x → x.kind ≠ .plain ∧ x.write = false) : HD X w w #[Go.ConcR.mk m] := by
  refine ⟨Env.refl X w, fun _ _ => rfl, fun _ _ => rfl, fun e he => ?_⟩
  simp only [List.mem_toArray, List.mem_cons, List.not_mem_nil, or_false] at he
  subst he
  refine ⟨fun x hx => ?_, fun a e => hr a (Loc.mark.inj e), hl⟩
  obtain ⟨h1, h2⟩ := ht x hx
  exact ⟨fun _ => h1, fun h => by rw [h2] at h; cases h⟩
/-- The count is turned, no group being called one. -/
theorem hd_count (S : Rs c) {s : Int} (hg : Go.ConcR.WgAt link.tWg c.wg w s 0) (hch : ∀ x, (c.X False).Ch x → x ≠ c.wg) (v : Value) : HD (c.X False) w (w.setCell (Go.ConcR.stA c.wg) v) #[⟨.cell (Go.ConcR.stA c.wg), false, true⟩, ⟨.cell (Go.ConcR.stA c.wg), true, true⟩] := by
  have hs := fun {x : Nat} (hx : x ≠ c.wg) => heap_setCell_ne w (Go.ConcR.stA c.wg) v hx
  have hb : ∀ x, BoxAt (c.X False) w x → x ≠ c.wg := by
    rintro x ⟨v', ty, hv, _, _, hn⟩ rfl
    unfold Go.ConcR.WgAt at hg
    rw [hv] at hg
    simp only [Go.ConcR.wgBlock, Option.some.injEq, Obj.cells.injEq] at hg
    rw [hg.1] at hn
    exact hn _ _ rfl
  have hst : ∀ a, (c.X False).St a → a.block ≠ c.wg := by
    rintro a (⟨r, hr, e⟩ | hf)
    · have h1 := S.rng r hr
      rcases e with rfl | rfl | rfl | rfl | rfl <;> exact (h1 _ (by simp [Wk.blocks])).2.2.1
    · intro e
      exact S.nfr S.wg.1 S.wg.2 (by rw [← e]; exact S.fst a hf)
  have hon : ∀ b, (c.X False).on b → b ≠ c.wg := fun b o e => by
    have := S.fon b (o.resolve_right fun h => h.1); have := S.wg; omega
  refine ⟨⟨by rw [size_setCell']; exact Nat.le_refl _, fun a ha => cell_of_block (hs (hst a ha)), fun x hx => hs (hb x hx), fun b o ⟨st, sm, h⟩ => ⟨st, sm, (hs (hon b o)).trans h⟩, rfl, rfl⟩, fun x hx => hs (hch x hx), fun b o => hs (hon b o), fun e he => ?_⟩
  have hnp : ¬ Prot (c.X False) w (Go.ConcR.stA c.wg) := fun h => h.elim (fun h => hst _ h rfl) fun h => hb _ h.2.2 rfl
  have hlt : c.wg < (w.setCell (Go.ConcR.stA c.wg) v).heap.size := by rw [size_setCell']; exact (Array.getElem?_eq_some_iff.1 hg).1
  simp only [List.mem_toArray, List.mem_cons, List.not_mem_nil, or_false] at he
  rcases he with rfl | rfl
  · refine ⟨fun x hx => ?_, by simp, hlt⟩
    simp only [MemAct.ofEvent, MemAct.touch?, Option.some.injEq] at hx
    subst hx
    exact ⟨fun _ => by simp, fun h => by cases h⟩
  · refine ⟨fun x hx => ?_, by simp, hlt⟩
    simp only [MemAct.ofEvent, MemAct.touch?, Option.some.injEq] at hx
    subst hx
    exact ⟨fun _ => by simp, fun _ a ha => by rw [← Loc.cell.inj ha]; exact hnp⟩

/-- The group's part of a round. -/
theorem add_round [Ref] (S : Rs c) {Bp : (Nat → By) → (Nat → Nat) → Prop} (hst : Stb c.h Bp) {nn v : Nat} (hv : v < 2147483646) {K : World → Prop} (hKr : ∀ w w', Rz c.FV w w' → K w → K w') (hKs : ∀ w x, K w → K (w.setCell (Go.ConcR.stA c.wg) x)) (hKc : ∀ w, K w → ∀ x, (c.X False).Ch x → x ≠ c.wg) {T : Array Value} (h8 : T[8]? = some (pb c.wg)) {cs : List Frame} {m : Machine} {Tr : Trace}
    (H : Held Try.prog (c.X False) c.FV c.h 0 nn Bp (fun g w => g = G (fRun T (.inRegion ops15 [0] :: .code (rt (rt (rt (rt blk1)))) :: todo1)) cs ∧ Go.ConcR.WgAt link.tWg c.wg w ((v : Int) * Go.ConcR.KK) 0 ∧ K w) m Tr) :
    Lands Try.prog m Tr (Held Try.prog (c.X False) c.FV c.h 0 nn Bp (fun g w => g = G ((base 10).at (Act.put ⟨T, []⟩ (((ops15)[0]?).bind (·.dst)) (.tuple #[])) (.inRegion ops15 [] :: .code (rt (rt (rt (rt blk1)))) :: todo1)) cs ∧ Go.ConcR.WgAt link.tWg c.wg w (((v : Int) + 1) * Go.ConcR.KK) 0 ∧ K w)) := by
  have wrl : ∀ {s : Int} {w w' : World}, Rz c.FV w w' → Go.ConcR.WgAt link.tWg c.wg w s 0 → Go.ConcR.WgAt link.tWg c.wg w' s 0 := fun r h => by
    unfold Go.ConcR.WgAt at h ⊢
    rw [r.same _ (Array.getElem?_eq_some_iff.1 h).1 (S.nfv S.wg.1)]; exact h
  have hlow : ∀ {s : Int} {w : World}, Go.ConcR.WgAt link.tWg c.wg w s 0 → c.wg < w.heap.size := fun h => (Array.getElem?_eq_some_iff.1 h).1
  have keep : ∀ {s : Int} {St : Goroutine → World → Prop} {k : Nat} {g : Goroutine} {w : World}, Go.ConcR.WgAt link.tWg c.wg w s 0 ∧ K w → Goes Try.prog (c.h == 0) (Rz c.FV) Cw.D0 St k g w → Goes Try.prog (c.h == 0) (Ext c.FV) (HDq (c.X False)) (fun g w => St g w ∧ Go.ConcR.WgAt link.tWg c.wg w s 0 ∧ K w) k g w := fun hQ h =>
    goes_imp (fun _ _ x => x) (d0_hdq _) (fun _ _ x => x) (goes_keep (D := Cw.D0) (Q := fun w => Go.ConcR.WgAt link.tWg c.wg w _ 0 ∧ K w) (fun w w' es h hq => by obtain ⟨rfl, _⟩ := h; exact hq) (fun w w' r hq => ⟨wrl r hq.1, hKr _ _ r hq.2⟩) (fun w => Ext.refl _ w) hQ h)
  -- to disable
  refine (H.walk (K' := fun g w => AddSp c.FV c.wg v T cs (c.h == 0) K g w ∧ Go.ConcR.WgAt link.tWg c.wg w ((v : Int) * Go.ConcR.KK) 0 ∧ K w) hst fun g w hK => ⟨14, ?_⟩).bind fun m₁ T₁ H₁ => ?_
  · obtain ⟨rfl, hQ⟩ := hK
    exact keep hQ (h_add (S.nfv S.wg.1) hKr hKs hv T h8 cs w hQ)
  refine (H₁.one (dh' := 1) (K' := fun g w => (∃ k, Goes Try.prog (c.h == 0) (Rz c.FV) Cw.D0 (Sp c.FV Try.prog (c.h == 0) (AddEs c.wg) (fun w => w.setCell (Go.ConcR.stA c.wg) (.int .u64 (((v : Int) + 1) * Go.ConcR.KK))) fun g w =>
      (v = 0 → Sp c.FV Try.prog (c.h == 0) (· = #[Go.ConcR.mk (.read ⟨c.wg, 1, none⟩)]) id (Sp c.FV Try.prog (c.h == 0) (· = #[Go.ConcR.mk .enable]) id (BackK (base 10) ⟨T, []⟩ ops15 0 [] (.code (rt (rt (rt (rt blk1)))) :: todo1) cs link.tWg c.wg (((v : Int) + 1) * Go.ConcR.KK) K)) g w) ∧
      (v ≠ 0 → Sp c.FV Try.prog (c.h == 0) (· = #[Go.ConcR.mk .enable]) id (BackK (base 10) ⟨T, []⟩ ops15 0 [] (.code (rt (rt (rt (rt blk1)))) :: todo1) cs link.tWg c.wg (((v : Int) + 1) * Go.ConcR.KK) K) g w)) k g w) ∧ Go.ConcR.WgAt link.tWg c.wg w ((v : Int) * Go.ConcR.KK) 0 ∧ K w) hst fun g w hK => ?_).bind fun m₂ T₂ H₂ => ?_
  · obtain ⟨⟨hrun, hs⟩, hQ⟩ := hK
    refine ⟨hrun, fun w₁ r => ?_⟩
    obtain ⟨g', es, h1, rfl, h3⟩ := hs w₁ r
    exact ⟨g', _, _, h1, hd_mark0 _ _ (by simp) trivial (by simp [MemAct.touch?]), rfl, h3, wrl r hQ.1, hKr _ _ r hQ.2⟩
  refine (H₂.walk hst fun g w hK => ⟨hK.1.choose, keep hK.2 hK.1.choose_spec⟩).bind fun m₃ T₃ H₃ => ?_
  -- the count
  refine (H₃.one (dh' := 1) (K' := fun g w => (∃ k, Goes Try.prog (c.h == 0) (Rz c.FV) Cw.D0 (fun g w =>
      (v = 0 → Sp c.FV Try.prog (c.h == 0) (· = #[Go.ConcR.mk (.read ⟨c.wg, 1, none⟩)]) id (Sp c.FV Try.prog (c.h == 0) (· = #[Go.ConcR.mk .enable]) id (BackK (base 10) ⟨T, []⟩ ops15 0 [] (.code (rt (rt (rt (rt blk1)))) :: todo1) cs link.tWg c.wg (((v : Int) + 1) * Go.ConcR.KK) K)) g w) ∧
      (v ≠ 0 → Sp c.FV Try.prog (c.h == 0) (· = #[Go.ConcR.mk .enable]) id (BackK (base 10) ⟨T, []⟩ ops15 0 [] (.code (rt (rt (rt (rt blk1)))) :: todo1) cs link.tWg c.wg (((v : Int) + 1) * Go.ConcR.KK) K) g w)) k g w) ∧ Go.ConcR.WgAt link.tWg c.wg w (((v : Int) + 1) * Go.ConcR.KK) 0 ∧ K w) hst fun g w hK => ?_).bind fun m₄ T₄ H₄ => ?_
  · obtain ⟨⟨hrun, hs⟩, hQ⟩ := hK
    refine ⟨hrun, fun w₁ r => ?_⟩
    obtain ⟨g', es, h1, rfl, h3⟩ := hs w₁ r
    exact ⟨g', _, _, h1, hd_count S (wrl r hQ.1) (hKc _ hQ.2) _, rfl, h3, wgAt_setSt (wrl r hQ.1), hKs _ _ (hKr _ _ r hQ.2)⟩
  refine (H₄.walk hst fun g w hK => ⟨hK.1.choose, keep hK.2 hK.1.choose_spec⟩).bind fun m₅ T₅ H₅ => ?_
  have fin : ∀ {m : Machine} {Tr : Trace}, Held Try.prog (c.X False) c.FV c.h 1 nn Bp (fun g w => Sp c.FV Try.prog (c.h == 0) (· = #[Go.ConcR.mk .enable]) id (BackK (base 10) ⟨T, []⟩ ops15 0 [] (.code (rt (rt (rt (rt blk1)))) :: todo1) cs link.tWg c.wg (((v : Int) + 1) * Go.ConcR.KK) K) g w ∧ Go.ConcR.WgAt link.tWg c.wg w (((v : Int) + 1) * Go.ConcR.KK) 0 ∧ K w) m Tr →
      Lands Try.prog m Tr (Held Try.prog (c.X False) c.FV c.h 0 nn Bp (fun g w => g = G ((base 10).at (Act.put ⟨T, []⟩ (((ops15)[0]?).bind (·.dst)) (.tuple #[])) (.inRegion ops15 [] :: .code (rt (rt (rt (rt blk1)))) :: todo1)) cs ∧ Go.ConcR.WgAt link.tWg c.wg w (((v : Int) + 1) * Go.ConcR.KK) 0 ∧ K w)) := by
    intro m Tr H
    refine (H.one (dh' := 0) (K' := fun g w => (∃ k, Goes Try.prog (c.h == 0) (Rz c.FV) Cw.D0 (BackK (base 10) ⟨T, []⟩ ops15 0 [] (.code (rt (rt (rt (rt blk1)))) :: todo1) cs link.tWg c.wg (((v : Int) + 1) * Go.ConcR.KK) K) k g w) ∧ Go.ConcR.WgAt link.tWg c.wg w (((v : Int) + 1) * Go.ConcR.KK) 0 ∧ K w) hst fun g w hK => ?_).bind fun m₁ T₁ H₁ => ?_
    · obtain ⟨⟨hrun, hs⟩, hQ⟩ := hK
      refine ⟨hrun, fun w₁ r => ?_⟩
      obtain ⟨g', es, h1, rfl, h3⟩ := hs w₁ r
      exact ⟨g', _, _, h1, hd_mark0 _ _ (by simp) trivial (by simp [MemAct.touch?]), rfl, h3, wrl r hQ.1, hKr _ _ r hQ.2⟩
    · exact H₁.walk hst fun g w hK => ⟨hK.1.choose, goes_imp (fun _ _ x => x) (fun _ _ _ x => x) (fun g w h => ⟨h.1.1, h.2⟩) (keep hK.2 hK.1.choose_spec)⟩
  by_cases e : v = 0
  · refine (H₅.one (dh' := 1) (K' := fun g w => (∃ k, Goes Try.prog (c.h == 0) (Rz c.FV) Cw.D0 (Sp c.FV Try.prog (c.h == 0) (· = #[Go.ConcR.mk .enable]) id (BackK (base 10) ⟨T, []⟩ ops15 0 [] (.code (rt (rt (rt (rt blk1)))) :: todo1) cs link.tWg c.wg (((v : Int) + 1) * Go.ConcR.KK) K)) k g w) ∧ Go.ConcR.WgAt link.tWg c.wg w (((v : Int) + 1) * Go.ConcR.KK) 0 ∧ K w) hst fun g w hK => ?_).bind fun m₆ T₆ H₆ => ?_
    · obtain ⟨⟨hrun, hs⟩, hQ⟩ := And.intro (hK.1.1 e) hK.2
      refine ⟨hrun, fun w₁ r => ?_⟩
      obtain ⟨g', es, h1, rfl, h3⟩ := hs w₁ r
      exact ⟨g', _, _, h1, hd_mark0 _ _ (by simp) (hlow (wrl r hQ.1)) (by simp [MemAct.touch?]), rfl, h3, wrl r hQ.1, hKr _ _ r hQ.2⟩
    · exact (H₆.walk hst fun g w hK => ⟨hK.1.choose, keep hK.2 hK.1.choose_spec⟩).bind fun m₇ T₇ H₇ => fin H₇
  · exact fin (H₅.mono (fun g w h => ⟨h.1.2 e, h.2⟩) fun _ _ h => h)
end
end
end Go.Proofs.Ytggfcdhkgldbfaa
