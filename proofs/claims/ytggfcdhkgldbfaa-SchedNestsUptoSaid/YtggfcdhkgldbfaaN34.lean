/-
  PARTS of a claim, merged by segs.py: NwRun2.
-/
import Derived.Test.YtggfcdhkgldbfaaN32
namespace Go.Proofs.Ytggfcdhkgldbfaa
set_option linter.unusedSimpArgs false
set_option linter.unusedVariables false

/-! ### NwRun2 -/
section
set_option linter.unusedSimpArgs false
open Go Go.Conc Go.RowKit Go.ConcR.Gen Cw
open Go.ConcN (sumTo upd upd_same upd_ne sumTo_upd sumTo_congr le_sumTo WgLive)

/-- What is old stands. -/
def Keep (W w : World) : Prop := W.heap.size ≤ w.heap.size ∧ ∀ b, b < W.heap.size → w.heap[b]? = W.heap[b]?
noncomputable def entryT (x y : Value) : Array Value := #[x, y, undef, undef, undef, undef, undef, undef, undef, undef, undef, undef, undef, undef, undef, undef, undef, undef, undef, undef, undef, undef, undef, undef, undef, undef, undef, undef, undef, undef, undef, undef, undef, undef, undef, undef, undef, undef, undef, undef, undef, undef, undef, undef, undef, undef, undef, undef, undef, undef, undef, undef, undef, undef, undef, undef, undef, undef, undef, undef, undef, undef, undef, undef, undef, undef, undef, undef, undef, undef, undef, undef, undef, undef, undef, undef, undef, undef, undef]
theorem pre_ext {Sh : Loc → Prop} {W w : World} (h : ShOk Sh W) (r : Ext Vn W w) : ShOk Sh w := fun a ha => by
  obtain ⟨st, sm, hw⟩ := h a ha
  refine ⟨st, sm, ?_⟩
  unfold Go.ConcR.WgAt at hw ⊢
  rw [r.same _ (Array.getElem?_eq_some_iff.1 hw).1 id]
  exact hw
theorem vrow_ext {W w : World} {a : Option Addr} {us : List Value} (h : VRow W a us) (r : Ext Vn W w) : VRow w a us := by
  rcases h with h | ⟨b, o, ha, hc⟩
  · exact .inl h
  · exact .inr ⟨b, o, ha, fun k u hk => cell_ext r (hc k u hk)⟩
section
variable {X : Cx} {V : Nat → Prop} {W w : World}
/-- The blocks that are turned are groups'. -/
def VG (V : Nat → Prop) (w : World) : Prop := ∀ b, V b → ∃ st sm, Go.ConcR.WgAt link.tWg b w st sm
theorem wg_no' {a : Addr} {v : Value} {st sm : Int} (hw : Go.ConcR.WgAt link.tWg a.block w st sm) (hc : w.cell? a = some v) (hv : notWg v = true) : False :=
  sh_no (Sh := fun l => l = .cell a) (W := w) (fun x hx => ⟨st, sm, by rw [Loc.cell.inj hx]; exact hw⟩) hc hv rfl
theorem Wd.at_ (hS : Wd X V W) (r : Ext V W w) (hV : VG V w) : Wd X V w := hS.ext r fun a v hc hv _ hva => by
  obtain ⟨st, sm, hw⟩ := hV _ hva
  exact wg_no' hw hc hv
theorem vrow_extg (hS : Wd X V W) {a : Option Addr} {us : List Value} (h : VRow W a us) (hx : ∀ u ∈ us, notWg u = true) (r : Ext V W w) : VRow w a us := by
  rcases h with h | ⟨b, o, ha, hc⟩
  · exact .inl h
  · exact .inr ⟨b, o, ha, fun k u hk => cell_extg hS r (hc k u hk) (hx u (List.mem_of_getElem? hk))⟩
/-- The place of a row, some place where there is none. -/
theorem vrow_atg (hS : Wd X V W) {a : Option Addr} {us : List Value} (h : VRow W a us) (hx : ∀ u ∈ us, notWg u = true) (e : Nat) (he : ∀ k, ¬ X.Sh (.cell ⟨e, k, none⟩)) : ∃ b o, (us = [] ∨ a = some ⟨b, o, none⟩) ∧ (∀ (k : Nat) (u : Value), us[k]? = some u → b < W.heap.size ∧ ¬ V b ∧ W.cell? ⟨b, o + k, none⟩ = some u) ∧ (∀ k, ¬ X.Sh (.cell ⟨b, k, none⟩)) ∧ (b = e ∨ b < W.heap.size) := by
  rcases h with h | ⟨b, o, ha, hc⟩
  · exact ⟨e, 0, .inl h, fun k u hk => by rw [h] at hk; simp at hk, he, .inl rfl⟩
  · cases us with
    | nil => exact ⟨e, 0, .inl rfl, fun k u hk => by simp at hk, he, .inl rfl⟩
    | cons x r =>
      have h0 := hc 0 x rfl
      have hb := block_of_cell h0
      exact ⟨b, o, .inr ha, fun k u hk => ⟨hb, hS.nv _ _ h0 (hx x (by simp)), hc k u hk⟩, fun k hs => hS.sh _ _ h0 (hx x (by simp)) ⟨b, k, none⟩ rfl hs, .inr hb⟩
theorem Held.vg [Ref] {P : Program} {h dh n : Nat} {Bp : (Nat → By) → (Nat → Nat) → Prop} {K : Goroutine → World → Prop} {m : Machine} {T : Trace} (hty : X.ty = link.tWg) (hon : ∀ b, V b → X.on b) (H : Held P X V h dh n Bp K m T) : Held P X V h dh n Bp (fun g w => K g w ∧ VG V w) m T := by
  obtain ⟨gs, w, sl, q, Rd, B, cn, g, rfl, hn, hg, hK, hB, C⟩ := H
  exact ⟨gs, w, sl, q, Rd, B, cn, g, rfl, hn, hg, ⟨hK, fun b hb => by rw [← hty]; exact (C.mdok b (hon b hb)).wg⟩, hB, C⟩
end

/-- What the others are about, kept. -/
structure BpOk (n₀ h : Nat) (Bp : (Nat → By) → (Nat → Nat) → Prop) : Prop where
  st : ∀ h' B cn B' cn', (h' = h ∨ (n₀ ≤ h' ∧ ∃ x z hm, B h = .seat x z hm)) → Bp B cn → Later h' B cn B' cn' → Bp B' cn'
  up : ∀ B cn B' cn', (∀ j, j < n₀ → j ≠ h → B' j = B j) → (∀ j, j < n₀ → cn' j = cn j) → Bp B cn → Bp B' cn'
/-- What is told of the company. -/
structure CoOk (X₀ : Cx) (V₀ : Nat → Prop) (h n₀ : Nat) (Bp : (Nat → By) → (Nat → Nat) → Prop) : Prop where
  bx : X₀.Bx = BxW
  ty : X₀.ty = link.tWg
  von : ∀ b, V₀ b → X₀.on b
  hn : h < n₀
  bp : BpOk n₀ h Bp
/-- The frame of a run in this company. -/
structure RunOf (X₀ : Cx) (V₀ : Nat → Prop) (h n₀ : Nat) (W : World) (b : Rb) (e : Re) : Prop where
  N₀ : b.N₀ = W.heap.size
  γ : b.γ = n₀
  h : b.h = h
  Fon : b.Fon = X₀.on
  FV : b.FV = V₀
  Fwg : b.Fwg = X₀.wg
  Ex : b.Ex = X₀.Ex
  FSt : e.FSt = X₀.St
  FCh : e.FCh = X₀.Ch
  sh : ∀ a, e.Sh (.cell a) → X₀.Sh (.cell a) ∨ W.heap.size ≤ a.block

section
variable {P : Program} {X : Cx} {V : Nat → Prop} {h dh : Nat} {B : Nat → By} {Rd : Nat → Loc → Prop} {cn : Nat → Nat} {T : Trace} {gs : Array Goroutine} {w : World} {q : Nat → Nat × Nat}
/-- The holder makes a block that is a group's from now on; where it lies is for the moment to say. -/
theorem group2 (C : Crew P X V h dh B Rd cn T gs w q) {a : Goroutine} {a' : Nat → Goroutine} {o : Obj} {sl : Option (Nat × Nat)} (ha : gs[h]? = some a) (hrun : a.status = .running) (hnoch : ∀ c, X.Ch c → c < w.heap.size) (hs : ∀ w₁, Ext V w w₁ → stepG P (h == 0) a w₁ = .go (a' w₁.heap.size) (w₁.alloc o) #[]) :
    ∃ (N : Nat) (gs' : Array Goroutine) (w₁ : World) (sl' : Option (Nat × Nat)) (T' : Trace) (q' : Nat → Nat × Nat) (Rd' : Nat → Loc → Prop) (B' : Nat → By) (cn' : Nat → Nat),
      runNT P N (crowd gs w sl) T = (.next (crowd gs' (w₁.alloc o) sl'), T') ∧ gs'.size = gs.size ∧ gs'[h]? = some (a' w₁.heap.size) ∧ Ext V w w₁ ∧ Env X w w₁ ∧ Later h B cn B' cn' ∧
      Crew P { X with Sh := wgNew X.Sh w₁.heap.size } V h dh B' Rd' cn' T' gs' (w₁.alloc o) q' := by
  obtain ⟨N, gs₁, w₁, d, sl₁, sl₂, T₁, q₁, Rd₁, B₁, cn₁, hr, hst, hsz, ha₁, hRw, hE, hEv, hlat, C₁⟩ := C.picked (sl := sl) (rely_ext V B h) (fun _ _ _ x y => x.trans y) ha hrun
  generalize hw2 : w₁.at d = w₂ at *
  have hgo := hs w₂ hRw
  have hD : HD X w₂ (w₂.alloc o) #[] := by
    refine ⟨⟨by simp, fun a ha => ?_, fun b hb => ?_, fun b _ ⟨st, sm, hw⟩ => ⟨st, sm, ?_⟩, rfl, rfl⟩, fun c hc => ?_, fun b ob => ?_, fun e he => by simp at he⟩
    · exact cell_of_block (heap_alloc_old _ _ _ (C₁.st a ha).1)
    · obtain ⟨v, ty, hv, _⟩ := hb
      exact heap_alloc_old _ _ _ (Array.getElem?_eq_some_iff.1 hv).1
    · exact (heap_alloc_old _ _ _ (Array.getElem?_eq_some_iff.1 hw).1).trans hw
    · exact heap_alloc_old _ _ _ (Nat.lt_of_lt_of_le (hnoch c hc) hE.size)
    · obtain ⟨st, sm, hw⟩ := (C₁.mdok b ob).wg
      exact heap_alloc_old _ _ _ (Array.getElem?_eq_some_iff.1 hw).1
  obtain ⟨C₂, ha₂⟩ := CrewM.own C₁ (a := a) (a' := a' w₂.heap.size) hD
  rw [ofEvents_nil, Array.append_empty] at C₂
  refine ⟨N + 1, _, w₂, sl₂, T₁, q₁, Rd₁, B₁, cn₁, ?_, by simpa using hsz, ha₂, hE, hEv, hlat, ⟨C₂.hlt, C₂.idle, C₂.seats, C₂.inj, C₂.out, C₂.hdeaf, C₂.rdp, C₂.rds, C₂.st, fun a o => .inl (C₂.sh a o), fun a ha => ?_, C₂.exlow, C₂.mdok, C₂.few, C₂.volD, C₂.volC, (C₁.past.group (b := w₂.heap.size) (Nat.le_refl _)).mono (by simp)⟩⟩
  · have := runNT_succ_of hr (show stepT P (crowd gs₁ w₁ sl₁) = (.next (crowd ((gs₁.map (woken P a (a' w₂.heap.size) (w₂.alloc o))).setIfInBounds h (a' w₂.heap.size)) (w₂.alloc o) sl₂), #[]) by rw [hst]; exact runT_crowd_go (sl := sl₂) ha₁ hgo)
    rw [Array.append_empty] at this
    exact this
  · rcases ha with ha | ⟨x, e, hx⟩
    · exact C₂.shlow a ha
    · obtain rfl := Loc.cell.inj e
      rw [hx, World.size_alloc]; exact Nat.lt_succ_self _
end

section
variable {X₀ : Cx} {V₀ : Nat → Prop} {h n₀ : Nat} {Bp : (Nat → By) → (Nat → Nat) → Prop} {al ap : Option Addr} {ps : List Nat} {tvs : List Value} {t : Tasks} {m0 : t.M}
/-- What more is fixed. -/
structure MoreX (X₀ : Cx) (N : Nat) (St' : Addr → Prop) (Ch' : Nat → Prop) (Sh' : Loc → Prop) : Prop where
  st : ∀ a, X₀.St a → St' a
  st' : ∀ a, St' a → X₀.St a ∨ N ≤ a.block
  ch : ∀ x, X₀.Ch x → Ch' x
  ch' : ∀ x, Ch' x → X₀.Ch x ∨ N ≤ x
  sh : ∀ l, X₀.Sh l → Sh' l
  sh' : ∀ a, Sh' (.cell a) → X₀.Sh (.cell a) ∨ N ≤ a.block
/-- What a run leaves. -/
structure RunEnd (t : Tasks) (W : World) (X₀ : Cx) (Sh' : Loc → Prop) (s : Sst t) (u : Value) (w : World) : Prop where
  tm : t.Tm s.m w
  row : w.ownsRow W.heap.size 40 2 u s.E.length (evCells s.E)
  size : W.heap.size ≤ w.heap.size
  shg : ∀ a, Sh' (.cell a) → (X₀.Sh (.cell a) ∧ a.block < W.heap.size) ∨ ∃ st sm, Go.ConcR.WgAt link.tWg a.block w st sm
  shr : ∀ g, u.ownBlock = some g → ∀ a : Addr, a.block = g → ¬ Sh' (.cell a)
set_option maxHeartbeats 4000000 in
/-- THE CONTRACT OF sched.Run. -/
theorem run_core [Ref] {tcap pcap : Nat} (E : CoOk X₀ V₀ h n₀ Bp) (hn : tvs.length ≤ 64) (hnp : ps.length ≤ 4096) (hps : ∀ i ∈ ps, i < tvs.length) (hif : ∀ v ∈ tvs, ∃ ty x, v = .iface ty x)
    {W : World} (hS : Wd X₀ V₀ W) (hwgl : ∀ i, i < n₀ → X₀.wg i ≤ W.heap.size) (hal : VRow W al tvs) (hap : VRow W ap (ints ps))
    (O : TasksOk t W.heap.size V₀) (htv : ∀ (k : Nat) v, tvs[k]? = some v → t.tv k = v) (hTm : ∀ m w, t.Tm m w → ∀ b, b < W.heap.size → ¬ V₀ b → w.heap[b]? = W.heap[b]?) (hT0 : ∀ w, (∀ b, b < W.heap.size → ¬ V₀ b → w.heap[b]? = W.heap[b]?) → t.Tm m0 w)
    (hKb : (sumTo tvs.length (fun k => t.rk k (t.l0 k)) + 1) * 1024 ≤ 140737488355328) (hI : t.InvS (t.s0 m0))
    (hTn : ∀ (b : Rb) (e : Re), RunOf X₀ V₀ h n₀ W b e → b.ks.length = tvs.length → Rs { toRb := b, toRe := e } → ∀ k, k < tvs.length → TurnsOk t b e k)
    {b₀ : Frame} {a₀ : Act} {ops : Array Oper} {j : Nat} {rest : List Nat} {kk : List Item} {cs : List Frame} {gs : Array Goroutine} {sl : Option (Nat × Nat)} {q : Nat → Nat × Nat} {Rd : Nat → Loc → Prop} {B : Nat → By} {cn : Nat → Nat} {T : Trace}
    (hgs : gs.size = n₀) (hg : gs[h]? = some (G (fRun (entryT (.slice ap ps.length pcap) (.slice al tvs.length tcap)) [.code bodyM]) (b₀.at a₀ (.inRegion ops (j :: rest) :: kk) :: cs))) (hB : Bp B cn) (C : CrewI Try.prog X₀ V₀ h 0 B Rd cn T gs W q) :
    Lands Try.prog (crowd gs W sl) T (fun m' T' => ∃ St' Ch' Sh' n', MoreX X₀ W.heap.size St' Ch' Sh' ∧ n₀ ≤ n' ∧ Held Try.prog { X₀ with St := St', Ch := Ch', Sh := Sh' } V₀ h 0 n' (fun B cn => Bp B cn ∧ ∀ j, n₀ ≤ j → B j = .gone) (fun g w => ∃ u, g = G (b₀.at (a₀.put ((ops[j]?).bind (·.dst)) (.tuple #[u, .int .i64 0])) (.inRegion ops rest :: kk)) cs ∧
      RunEnd t W X₀ Sh' (t.fin m0 tvs.length ps) u w) m' T') := by
  have hbp : Stb h Bp := fun B cn B' cn' hb hl => E.bp.st h B cn B' cn' (.inl rfl) hb hl
  have hexl : ∀ b, X₀.Ex b → b < W.heap.size := C.exlow
  have hvolC : ∀ x, X₀.Ch x → ¬ V₀ x := C.volC
  have hshon : ∀ a : Addr, X₀.on a.block → X₀.Sh (.cell a) := C.sh
  have H₀ : Held Try.prog X₀ V₀ h 0 n₀ Bp (fun g w => g = G (fRun (entryT (.slice ap ps.length pcap) (.slice al tvs.length tcap)) [.code bodyM]) (b₀.at a₀ (.inRegion ops (j :: rest) :: kk) :: cs) ∧ Kn V₀ W [] w) (crowd gs W sl) T := ⟨gs, W, sl, q, Rd, B, cn, _, rfl, hgs, hg, ⟨rfl, Ext.refl V₀ W, by simp⟩, hB, C⟩
  clear hg hB C hgs
  have htn : ∀ u ∈ tvs, notWg u = true := fun u hu => by obtain ⟨ty, x, rfl⟩ := hif u hu; rfl
  have hpn : ∀ u ∈ ints ps, notWg u = true := fun u hu => by obtain ⟨x, _, rfl⟩ := List.mem_map.1 hu; rfl
  -- to the first test
  refine (H₀.walk hbp fun g w hK => ⟨40, by obtain ⟨rfl, hK⟩ := hK; exact r_begin1 (mn := (h == 0)) hS (al := al) (ap := ap) (tcap := tcap) (pcap := pcap) hn hnp _ w hK⟩).bind fun m₁ T₁ H₁ => ?_
  obtain ⟨tb, H₁⟩ := H₁.ex
  obtain ⟨Ts, H₁⟩ := H₁.ex
  obtain ⟨⟨s1, s2, s3, s4⟩, H₁⟩ := H₁.and
  -- no task is nil
  refine ((H₁.vg E.ty E.von).walk hbp fun g w hK => by
    obtain ⟨⟨rfl, hK⟩, hvg⟩ := hK
    obtain ⟨k1, hk1⟩ := c_run1 (X := X₀) (V := V₀) (W := w) (main := (h == 0))
    obtain ⟨kc, hkc⟩ := c_conT (main := (h == 0)) (hS.at_ hK.1 hvg) tcap (vrow_extg hS hal htn hK.1) (by omega) htn (f := 15) (cap := #[]) ⟨k1, fun x hx w' hw' => by obtain ⟨ty, y, rfl⟩ := hif x hx; exact hk1 _ _ w' hw'⟩
    exact ⟨20 + kc + 3, r_begin2 (mn := (h == 0)) hS (np := ps.length) (pcap := pcap) _ w hK Ts s1 s2 s3 s4 hkc⟩).bind fun m₂ T₂ H₂ => ?_
  obtain ⟨Ts₂, H₂⟩ := H₂.ex
  obtain ⟨⟨p1, p2, p3, p4, p5⟩, H₂⟩ := H₂.and
  -- every pick is a task's
  refine ((H₂.vg E.ty E.von).walk hbp fun g w hK => by
    obtain ⟨⟨rfl, hK⟩, hvg⟩ := hK
    have hbx := (hK.2 (tb, Obj.cells #[.slice al tvs.length tcap] 32 (0, 0)) (by simp)).2
    have hbc : w.cell? ⟨tb, 0, none⟩ = some (.slice al tvs.length tcap) := by simp only at hbx; simp [World.cell?, hbx]
    obtain ⟨k2, hk2⟩ := c_run2 (main := (h == 0)) (hS.at_ hK.1 hvg) hbc
    obtain ⟨kc, hkc⟩ := c_conI (main := (h == 0)) (hS.at_ hK.1 hvg) pcap (vrow_extg hS hap hpn hK.1) (by simp [ints]; omega) hpn (f := 17) (cap := #[pb tb]) ⟨k2, fun x hx w' hw' => by obtain ⟨y, hy, rfl⟩ := List.mem_map.1 hx; exact hk2 y w' (hps y hy) hw'⟩
    rw [show (ints ps).length = ps.length by simp [ints]] at hkc
    exact ⟨30 + kc + 3, r_begin3 (mn := (h == 0)) hS hn _ w hK Ts₂ p1 p2 p3 p4 p5 hkc⟩).bind fun m₃ T₃ H₃ => ?_
  obtain ⟨eb, H₃⟩ := H₃.ex
  obtain ⟨ev, H₃⟩ := H₃.ex
  obtain ⟨wb, H₃⟩ := H₃.ex
  obtain ⟨Ts₃, H₃⟩ := H₃.ex
  obtain ⟨⟨q1, q2, q3, q4, q5⟩, H₃⟩ := H₃.and
  -- the group
  obtain ⟨gs, w₀, sl, q, Rd, B, cn, g, rfl, hgs, hg, ⟨rfl, hK⟩, hB, C⟩ := H₃
  obtain ⟨N, gs', w, sl', T', q', Rd', B', cn', hrun, hsz, hg', hxt, henv, hlat, C'⟩ := group2 C.crew (sl := sl) (o := Go.ConcR.wgBlock link.tWg 0 0) (a' := fun b => G (fRun (Ts₃.setIfInBounds 8 (pb b)) (.inRegion ops9 [] :: .code cd7 :: [])) (b₀.at a₀ (.inRegion ops (j :: rest) :: kk) :: cs)) hg rfl (fun c hc => Nat.lt_of_lt_of_le (hS.fl.ch c hc) hK.1.size) (fun w₁ _ => g_group (mn := (h == 0)) Ts₃ _ w₁)
  replace hK := hK.rl (fun _ => hS.own) hxt
  have hB' := hbp _ _ _ _ hB hlat
  let c : Rc := { ks := [], wb := wb, ev := ev, wg := w.heap.size, N₀ := W.heap.size, B₁ := w.heap.size + 1, γ := n₀, h := h, Fon := X₀.on, FV := V₀, Fwg := X₀.wg, Ex := X₀.Ex, FB := fun B cn => Bp B cn ∧ ∀ j x z hm, j < n₀ → j ≠ h → B j = .seat x z hm → X₀.Ch x, B₀ := w.heap.size + 1, n := n₀, Sh := wgNew X₀.Sh w.heap.size, FSt := X₀.St, FCh := X₀.Ch }
  have kwb := hK.2 (wb, mkW tvs.length) (by simp)
  have kev := hK.2 (ev, Obj.cells #[.slice (some ⟨eb, 0, none⟩) 0 0] 28 (0, 0)) (by simp)
  have keb := hK.2 (eb, Obj.cells #[] 40 (0, 0)) (by simp)
  have ktb := hK.2 (tb, Obj.cells #[.slice al tvs.length tcap] 32 (0, 0)) (by simp)
  simp only at kwb kev keb ktb
  have lt : ∀ {b : Nat} {o : Obj}, w.heap[b]? = some o → b < w.heap.size := fun h => (Array.getElem?_eq_some_iff.1 h).1
  have lwb := lt kwb.2
  have lev := lt kev.2
  have leb := lt keb.2
  have ltb := lt ktb.2
  have nwe : wb ≠ ev := fun e => by have := kwb.2; rw [e, kev.2] at this; simp at this
  have nwb : eb ≠ wb := fun e => by have := keb.2; rw [e, kwb.2] at this; simp at this
  have hwsz := hK.1.size
  have hfrl : ∀ b, X₀.on b → b < W.heap.size := hS.fl.wg
  have S : Rs c := by
    refine ⟨fun k k' r r' hk => by simp [c] at hk, fun r hr => by simp [c] at hr, fun r hr => by simp [c] at hr, ⟨kwb.1, by show wb < w.heap.size + 1; omega, by show wb ≠ w.heap.size; omega, nwe⟩, ⟨kev.1, by show ev < w.heap.size + 1; omega, by show ev ≠ w.heap.size; omega⟩, ⟨hwsz, by show w.heap.size < w.heap.size + 1; omega⟩, Nat.le_refl _, fun a ha => ?_, fun a ha => ?_, E.hn, Nat.le_refl _, fun a ha => .inl (hS.fl.st a ha), fun x hx => ⟨.inl (hS.fl.ch x hx), hvolC x hx⟩, hS.fl.v, hfrl, hexl, fun i hi => ?_, ⟨fun h' B cn B' cn' hh hb hl => ⟨E.bp.st h' B cn B' cn' hh hb.1 hl, fun j x z hm hj hjh e => ?_⟩, fun B cn B' cn' h1 h2 hb => ⟨E.bp.up B cn B' cn' h1 h2 hb.1, fun j x z hm hj hjh e => hb.2 j x z hm hj hjh (by rw [← h1 j hj hjh]; exact e)⟩, fun B cn j x z hm hb hj hjh e => hS.fl.ch x (hb.2 j x z hm hj hjh e)⟩⟩
    · rcases ha with ha | ⟨x, e, hx⟩
      · exact .inl (.inl (hS.fl.sh a ha))
      · rw [Loc.cell.inj e]; exact .inr hx
    · rcases ha with ha | ha
      · exact .inr ⟨a, rfl, ha⟩
      · exact .inl (hshon a (E.von _ ha))
    · have := hwgl i hi
      show X₀.wg i ≠ w.heap.size
      omega
    · rcases hl.le j with e' | ⟨⟨_, e'⟩, ⟨_, e''⟩ | e''⟩
      · exact hb.2 j x z hm hj hjh (by rw [← e']; exact e)
      · rw [e''] at e; cases e
      · rw [e''] at e; cases e
  have hsz1 : (w.alloc (Go.ConcR.wgBlock link.tWg 0 0)).heap.size = w.heap.size + 1 := by rw [World.size_alloc]
  have hgs' : gs'.size = n₀ := hsz.trans hgs
  have hge : ∀ i, n₀ ≤ i → B' i = .gone := fun i hi => (C'.out i (by omega)).2.2
  have hwlt : ∀ i, i < n₀ → (c.X False).wg i = X₀.wg i := fun i hi => if_neg (Nat.not_le_of_lt hi)
  have hwge : ∀ i, n₀ ≤ i → (c.X False).wg i = w.heap.size := fun i hi => if_pos hi
  have hon0 : ∀ b, (c.X False).on b → X₀.on b := fun b o => o.resolve_right fun h => h.1
  have C₂ : Crew Try.prog (c.X False) V₀ h 0 B' Rd' cn' T' gs' (w.alloc (Go.ConcR.wgBlock link.tWg 0 0)) q' := by
    refine CrewM.recast C' (X' := c.X False) (V' := V₀) (cn' := cn') (fun a h => .inr h) E.bx.symm rfl rfl (fun x h => .inr h) E.ty.symm (fun a ha => ⟨fun o => (C'.st a ?_).2.1 (hon0 _ o), (C'.st a ?_).2.2⟩) (fun x hx => C'.volC x ?_) (fun a o => C'.sh a (hon0 _ o)) (fun i s hi e => ?_) (fun b o => ?_)
    · exact ha.resolve_left fun ⟨r, hr, _⟩ => by simp [c] at hr
    · exact ha.resolve_left fun ⟨r, hr, _⟩ => by simp [c] at hr
    · exact hx.resolve_left fun ⟨r, hr, _⟩ => by simp [c] at hr
    · have hil : i < n₀ := Nat.lt_of_not_le fun hh => by rw [hge i hh] at e; cases e
      have hid := C'.idle i _ hi (Array.getElem?_eq_getElem (show i < gs'.size by omega))
      rw [e] at hid
      exact ⟨hwlt i hil, .inl hid.2.1, C'.volD i s hi e⟩
    · have ob := hon0 b o
      have hbl := hfrl b ob
      have hw : ∀ i, (c.X False).wg i = b → i < n₀ := fun i e => Nat.lt_of_not_le fun hh => by rw [hwge i hh] at e; omega
      have hsm : sm (c.X False) gs'.size cn' b = sm { X₀ with Sh := wgNew X₀.Sh w.heap.size } gs'.size cn' b := by
        unfold sm
        refine sumTo_congr fun i hi => ?_
        rw [hwlt i (by omega)]
      have h1 := C'.mdok b ob
      obtain ⟨a1, a2, a3, a4, a5⟩ := h1
      refine ⟨⟨a1, ?_, fun e => by omega, fun i s hi hb e => a4 i s hi (by rw [← hwlt i (hw i hb)]; exact hb) e, fun i hi hb e => a5 i hi (by rw [← hwlt i (hw i hb)]; exact hb) e⟩, ?_⟩
      · rw [hsm]
        exact Eq.mp (congrArg (fun ty => Go.ConcR.WgAt ty b _ _ 0) E.ty) a2
      · rw [hsm]; exact C'.few b ob
  have hold : ∀ b, b < w.heap.size → (w.alloc (Go.ConcR.wgBlock link.tWg 0 0)).heap[b]? = w.heap[b]? := fun b hb => heap_alloc_old w _ b hb
  have hnew : (w.alloc (Go.ConcR.wgBlock link.tWg 0 0)).heap[w.heap.size]? = some (Go.ConcR.wgBlock link.tWg 0 0) := heap_alloc_new w _
  have hcs : ∀ (k : Nat), k < tvs.length → (madeCells #[.pointer none] tvs.length)[k]? = some (.pointer none) := fun k hk => by simp [madeCells, hk, Nat.mod_one]
  have hSW : SW t c tvs.length m0 (.slice (some ⟨eb, 0, none⟩) 0 0) (w.alloc (Go.ConcR.wgBlock link.tWg 0 0)) := by
    refine ⟨fun k r hk => by simp [c] at hk, ⟨madeCells #[.pointer none] tvs.length, (hold wb lwb).trans kwb.2, by simp [madeCells], fun k r hk => by simp [c] at hk, fun k _ hk => hcs k hk⟩, hT0 _ fun b hb hv => ?_, by rw [hsz1]; exact Nat.le_refl _, ?_, (hold ev lev).trans kev.2, ⟨by simp, .inr ⟨eb, 0, #[], rfl, Nat.zero_le _, (hold eb leb).trans keb.2, Nat.le_refl _, Nat.zero_le _, by simp, by simp⟩⟩, fun a ha => ?_, fun g hg => ?_⟩
    · exact (hold b (by omega)).trans (hK.1.same b hb hv)
    · show Go.ConcR.WgAt link.tWg w.heap.size _ (((0 : Nat) : Int) * Go.ConcR.KK) 0
      rw [show (((0 : Nat) : Int) * Go.ConcR.KK) = 0 by simp]
      exact hnew
    · rcases ha with ha | ⟨x, e, hx⟩
      · exact .inl (hS.fl.sh a ha)
      · rw [Loc.cell.inj e]; exact .inr hx
    · obtain rfl : eb = g := by simpa [Value.ownBlock] using hg
      exact ⟨keb.1, by show eb < w.heap.size + 1; omega, by show eb ≠ w.heap.size; omega, nwb, fun r hr => by simp [c] at hr⟩
  have H₄ : Held Try.prog (c.X False) c.FV c.h 0 c.n (BysS t c) (fun g w' => g = G (fRun (Ts₃.setIfInBounds 8 (pb w.heap.size)) (.inRegion ops9 [] :: .code cd7 :: [])) (b₀.at a₀ (.inRegion ops (j :: rest) :: kk) :: cs) ∧ SW t c tvs.length m0 (.slice (some ⟨eb, 0, none⟩) 0 0) w' ∧ w'.heap[tb]? = some (.cells #[.slice al tvs.length tcap] 32 (0, 0))) (crowd gs' (w.alloc (Go.ConcR.wgBlock link.tWg 0 0)) sl') T' :=
    ⟨gs', _, sl', q', _, B', cn', _, rfl, hgs', hg', ⟨rfl, hSW, (hold tb ltb).trans ktb.2⟩, ⟨⟨hB', fun j x z hm hj hjh e => (C'.seats j x z hm hjh e).1⟩, fun j hj' => hge j (by have : c.γ + c.ks.length = n₀ := rfl; omega), fun k r hk => by simp [c] at hk⟩, ⟨C₂, C.sys.of henv.io⟩⟩
  refine Lands.bind ⟨N, _, _, hrun, H₄⟩ fun m₄ T₄ H₄ => ?_
  have O' : TasksOk t c.N₀ c.FV := O
  have hput : ∀ k, k ≠ 8 → (Ts₃.setIfInBounds 8 (pb w.heap.size))[k]? = Ts₃[k]? := fun k hk => by simp [Array.getElem?_setIfInBounds, Ne.symm hk]
  refine (H₄.walk (K' := fun g w' => Head1 (.slice ap ps.length pcap) (.slice (some ⟨wb, 0, none⟩) tvs.length tvs.length) (.slice al tvs.length tcap) tvs.length 0 c.wg c.ev (b₀.at a₀ (.inRegion ops (j :: rest) :: kk) :: cs) g ∧ SW t c tvs.length m0 (.slice (some ⟨eb, 0, none⟩) 0 0) w') (bysS_stb S) fun g w' hK => ⟨20, ?_⟩).bind fun m₅ T₅ H₅ => ?_
  · obtain ⟨rfl, hQ'⟩ := hK
    refine goes_imp (fun _ _ x => x) (fun _ _ _ x => x) (fun g w h => ⟨h.1, h.2.1⟩) (r_begin4 (X := c.X False) (V := V₀) (Q := fun w' => SW t c tvs.length m0 (.slice (some ⟨eb, 0, none⟩) 0 0) w' ∧ w'.heap[tb]? = some (.cells #[.slice al tvs.length tcap] 32 (0, 0))) (fun w w' h r => ⟨h.1.ext S O' r, (r.same _ (Array.getElem?_eq_some_iff.1 h.2).1 (hS.own ktb.1)).trans h.2⟩) (fun w h => by simp [World.cell?, h.2]) (S.nsh (b := tb) ktb.1 (by show tb < w.heap.size + 1; omega) (by show tb ≠ w.heap.size; omega) rfl) _ w' hQ' _ (by simpa using q1) ((hput 0 (by decide)).trans q2) ((hput 3 (by decide)).trans q3) ((hput 6 (by decide)).trans q4) ((hput 7 (by decide)).trans q5) (by simp [q1]; rfl))
  -- the rest
  have hne : ∀ k, ¬ X₀.Sh (.cell ⟨ev, k, none⟩) := fun k h => by have := hS.fl.sh _ h; simp only at this; omega
  obtain ⟨tp, to', ht1, ht2, ht3, ht4⟩ := vrow_atg hS hal htn ev hne
  obtain ⟨pp, po, hp1, hp2, hp3, hp4⟩ := vrow_atg hS hap hpn ev hne
  have nwg : ∀ {b : Nat}, (∀ k, ¬ X₀.Sh (.cell ⟨b, k, none⟩)) → (b = ev ∨ b < W.heap.size) → ∀ k, ¬ c.Sh (.cell ⟨b, k, none⟩) := by
    intro b h1 h2 k h
    rcases h with h | ⟨x, e, hx⟩
    · exact h1 k h
    · rw [← Loc.cell.inj e] at hx
      simp only at hx
      rcases h2 with h2 | h2 <;> omega
  refine (run_loops (t := t) (c := c) (n := tvs.length) (m0 := m0) (u := .slice (some ⟨eb, 0, none⟩) 0 0) O' (fun ks B hl hR => hTn _ _ ⟨rfl, rfl, rfl, rfl, rfl, rfl, rfl, rfl, rfl, fun a ha => ?_⟩ hl hR) (by omega) hKb hI (tkv := .slice al tvs.length tcap) (tp := tp) (to' := to') (tcap := tcap) ?_ (fun m w hw k hk => ?_) (nwg ht3 ht4)
    (a := ap) (p := pp) (o := po) (cap := pcap) (ncap := tvs.length) (ps := ps) ?_ hps (by omega) (fun m w hw j i hj => ?_) (nwg hp3 hp4) (hp4.symm) rfl rfl rfl S H₅).mono fun m' T' H => ?_
  · rcases ha with ha | ⟨x, e, hx⟩
    · exact .inl ha
    · rw [Loc.cell.inj e]; exact .inr (by omega)
  · rcases ht1 with h | h
    · exact .inl (by rw [h]; rfl)
    · exact .inr (by rw [h])
  · obtain ⟨v, hv⟩ : ∃ v, tvs[k]? = some v := ⟨_, List.getElem?_eq_getElem hk⟩
    obtain ⟨h1, h1', h2⟩ := ht2 k _ hv
    rw [cell_of_block (hTm m w hw _ h1 h1'), h2, htv k v hv]
  · rcases hp1 with h | h
    · exact .inl (by simpa [ints] using h)
    · exact .inr h
  · have hi : (ints ps)[j]? = some (.int .i64 (i : Int)) := by simp [ints, hj]
    obtain ⟨h1, h1', h2⟩ := hp2 j _ hi
    rw [cell_of_block (hTm m w hw _ h1 h1'), h2]
  · obtain ⟨ks, B₂, e, hkl, hG, S', gs, w', sl, q, Rd, B, cn, g, rfl, hgs, hg, ⟨u, rfl, hD, hB0, hSd⟩, ⟨hFB, hby⟩, C⟩ := H
    let c' : Rc := (c.to ks B₂).wi e
    have hlo : W.heap.size ≤ B₂ := S'.lt1
    have hne : n₀ ≤ e.n := Nat.le_trans (Nat.le_add_right _ _) (show n₀ + ks.length ≤ e.n from S'.gn)
    have hst' : ∀ a, c'.St a → X₀.St a ∨ W.heap.size ≤ a.block := by
      rintro a (⟨r, hr, h⟩ | h)
      · have rg := S'.rng r hr
        right
        rcases h with rfl | rfl | rfl | rfl | rfl <;> exact (rg _ (by simp [Wk.blocks])).1
      · exact (hG.newS a h).imp id fun h => Nat.le_trans hlo h
    have hch' : ∀ x, (c'.X False).Ch x → X₀.Ch x ∨ W.heap.size ≤ x := by
      rintro x (⟨r, hr, h⟩ | h)
      · have rg := S'.rng r hr
        right
        rcases h with rfl | rfl <;> exact (rg _ (by simp [Wk.blocks])).1
      · exact (hG.newC x h).imp id fun h => Nat.le_trans hlo h
    have hsh' : ∀ a, e.Sh (.cell a) → X₀.Sh (.cell a) ∨ W.heap.size ≤ a.block := by
      intro a ha
      rcases hG.new a ha with h | h
      · rcases h with h | ⟨x, e, hx⟩
        · exact .inl h
        · rw [Loc.cell.inj e]; exact .inr (by omega)
      · exact .inr (Nat.le_trans hlo h)
    have hwlt : ∀ i, i < n₀ → (c'.X False).wg i = X₀.wg i := fun i hi => if_neg (Nat.not_le_of_lt hi)
    have hwge : ∀ i, n₀ ≤ i → (c'.X False).wg i = w.heap.size := fun i hi => if_pos hi
    have hon0 : ∀ b, X₀.on b → (c'.X False).on b := fun b o => .inl o
    refine ⟨c'.St, (c'.X False).Ch, e.Sh, e.n, ⟨fun a ha => .inr (hG.FSt a ha), hst', fun x hx => .inr (hG.FCh x hx), hch', fun l hl => hG.Sh l (.inl hl), hsh'⟩, hne, ?_⟩
    let cn'' : Nat → Nat := fun i => if i < n₀ then cn i else 0
    have hcl : ∀ i, i < n₀ → cn'' i = cn i := fun i hi => if_pos hi
    have hcg : ∀ i, n₀ ≤ i → cn'' i = 0 := fun i hi => if_neg (Nat.not_lt_of_le hi)
    refine ⟨gs, w', sl, q, Rd, B, cn'', _, rfl, hgs, hg, ⟨u, rfl, hD.1, hD.2.1, hD.2.2.1, fun a ha => ?_, hSd.2⟩, ⟨E.bp.up _ _ _ _ (fun _ _ _ => rfl) hcl hFB.1, hby⟩, ⟨?_, C.sys⟩⟩
    · rcases hSd.1 a ha with h | h
      · exact .inl ⟨(hsh' a ha).resolve_right (Nat.not_le_of_lt h), h⟩
      · exact .inr h
    · refine CrewM.recast C.toCrewM (X' := { X₀ with St := c'.St, Ch := (c'.X False).Ch, Sh := e.Sh }) (V' := V₀) (cn' := cn'') (fun a h => h) E.bx rfl rfl (fun x h => h) E.ty (fun a ha => ⟨fun o => (C.st a ha).2.1 (hon0 _ o), (C.st a ha).2.2⟩) (fun x hx => C.volC x hx) (fun a o => C.sh a (hon0 _ o)) (fun i s hi e => ?_) (fun b ob => ?_)
      · have hil : i < n₀ := Nat.lt_of_not_le fun hh => by rw [hby i hh] at e; cases e
        have hid := C.idle i _ hi (Array.getElem?_eq_getElem (show i < gs.size by omega))
        rw [e] at hid
        exact ⟨(hwlt i hil).symm, hid.2.1.resolve_right fun h => h.1, C.volD i s hi e⟩
      · have hbl := hfrl b ob
        have hw : ∀ i, (c'.X False).wg i = b → i < n₀ := fun i e => Nat.lt_of_not_le fun hh => by rw [hwge i hh] at e; omega
        have hsm : sm { X₀ with St := c'.St, Ch := (c'.X False).Ch, Sh := e.Sh } gs.size cn'' b = sm (c'.X False) gs.size cn b := by
          unfold sm
          refine sumTo_congr fun i hi => ?_
          by_cases hil : i < n₀
          · rw [hwlt i hil, hcl i hil]
          · rw [hcg i (by omega), hwge i (by omega), if_neg (show ¬ w.heap.size = b by omega)]
            exact ite_self _
        obtain ⟨a1, a2, a3, a4, a5⟩ := C.mdok b (hon0 b ob)
        refine ⟨⟨a1, ?_, fun e => by omega, fun i s hi hb e => ?_, fun i hi hb e => ?_⟩, ?_⟩
        · rw [hsm]
          show Go.ConcR.WgAt X₀.ty _ _ _ _
          rw [E.ty]
          exact a2
        · have hil : i < n₀ := Nat.lt_of_not_le fun hh => by rw [hby i hh] at e; cases e
          rw [hcl i hil]
          exact a4 i s hi (by rw [hwlt i hil]; exact hb) e
        · by_cases hil : i < n₀
          · rw [hcl i hil]
            exact a5 i hi (by rw [hwlt i hil]; exact hb) e
          · exact hcg i (by omega)
        · rw [hsm]; exact C.few b (hon0 b ob)
end
end
end Go.Proofs.Ytggfcdhkgldbfaa
