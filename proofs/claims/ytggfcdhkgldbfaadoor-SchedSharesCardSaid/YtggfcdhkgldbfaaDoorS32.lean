/-
  PARTS of a claim, merged by segs.py: CwRunT, CwAd3, CwAd4.
-/
import Derived.Test.YtggfcdhkgldbfaaDoorS31
import Derived.Test.YtggfcdhkgldbfaaDoorS27
namespace Go.Proofs.YtggfcdhkgldbfaaDoor
set_option linter.unusedSimpArgs false
set_option linter.unusedVariables false

/-! ### CwRunT -/
section
set_option linter.unusedSimpArgs false
open Go Go.Conc Go.RowKit Go.ConcR.Gen Cw
open Go.ConcN (sumTo upd upd_same upd_ne)

structure PreT (Sh : Loc → Prop) (al ap : Option Addr) (tvs : List Value) (ps : List Nat) (t : World → Tasks) (m0 : (W : World) → (t W).M) (sb : Nat) (W : World) : Prop where
  sh : ShOk Sh W
  tasks : VRow W al tvs
  picks : VRow W ap (ints ps)
  ok : TasksOk (t W) W.heap.size Sh
  tm : ∀ w, (∀ b, b < W.heap.size → w.heap[b]? = W.heap[b]?) → (t W).Tm (m0 W) w
  frame : ∀ m w, (t W).Tm m w → ∀ b, b < W.heap.size → b ≠ sb → w.heap[b]? = W.heap[b]?
  tvk : ∀ (k : Nat) v, tvs[k]? = some v → (t W).tv k = v
  inv : (t W).InvS ((t W).s0 (m0 W))
  sum : (sumTo tvs.length (fun k => (t W).rk k ((t W).l0 k)) + 1) * 1024 ≤ 140737488355328
  rowT : ∀ b o, al = some ⟨b, o, none⟩ → tvs ≠ [] → b ≠ sb
  rowP : ∀ b o, ap = some ⟨b, o, none⟩ → ps ≠ [] → b ≠ sb
  sbs : ∀ a : Addr, Sh (.cell a) → a.block ≠ sb
section
variable {Sh : Loc → Prop} {al ap : Option Addr} {ps : List Nat} {tvs : List Value} {t : World → Tasks} {m0 : (W : World) → (t W).M} {sb : Nat}
set_option maxHeartbeats 4000000 in
/-- THE CONTRACT OF sched.Run AT TASKS THAT SHARE A BLOCK. -/
theorem run_tasks [Ref] {γ tcap pcap : Nat} {Q : World → Prop} (hγ : 1 ≤ γ) (hn : tvs.length ≤ 64) (hnp : ps.length ≤ 4096) (hps : ∀ i ∈ ps, i < tvs.length) (hif : ∀ v ∈ tvs, ∃ ty x, v = .iface ty x)
    {b₀ : Frame} {a₀ : Act} {ops : Array Oper} {j : Nat} {rest : List Nat} {kk : List Item} {cs : List Frame} {m : Machine} {T : Trace}
    (H : Held Tryd.prog (Cx0 Sh) Vn 0 0 γ Gone (fun g w => g = G (fRun (entryT (.slice ap ps.length pcap) (.slice al tvs.length tcap)) [.code bodyM]) (b₀.at a₀ (.inRegion ops (j :: rest) :: kk) :: cs) ∧ PreT Sh al ap tvs ps t m0 sb w ∧ Q w) m T) :
    Lands Tryd.prog m T (fun m' T' => ∃ Sh', Held Tryd.prog (Cx0 Sh') Vn 0 0 (γ + tvs.length) Gone (fun g w => ∃ W u, g = G (b₀.at (a₀.put ((ops[j]?).bind (·.dst)) (.tuple #[u, .int .i64 0])) (.inRegion ops rest :: kk)) cs ∧ PreT Sh al ap tvs ps t m0 sb W ∧ Q W ∧ W.heap.size ≤ w.heap.size ∧
      (∀ b, b < W.heap.size → b ≠ sb → w.heap[b]? = W.heap[b]?) ∧ (t W).Tm ((t W).fin (m0 W) tvs.length ps).m w ∧ ShOk Sh' w ∧
      w.ownsRow W.heap.size 70 2 u ((t W).fin (m0 W) tvs.length ps).E.length (evCells ((t W).fin (m0 W) tvs.length ps).E)) m' T') := by
  obtain ⟨gs, W, sl, q, Rd, B, cn, g, rfl, hgs, hg, ⟨rfl, hP, hQ⟩, hB, C⟩ := H
  have hS := hP.sh
  have H₀ : Held Tryd.prog (Cx0 Sh) Vn 0 0 γ Gone (fun g w => g = G (fRun (entryT (.slice ap ps.length pcap) (.slice al tvs.length tcap)) [.code bodyM]) (b₀.at a₀ (.inRegion ops (j :: rest) :: kk) :: cs) ∧ Kn W [] w) (crowd gs W sl) T := ⟨gs, W, sl, q, Rd, B, cn, _, rfl, hgs, hg, ⟨rfl, Ext.refl Vn W, by simp⟩, hB, C⟩
  clear hg hB C
  -- to the first test
  refine (H₀.walk gone_stb fun g w hK => ⟨40, by obtain ⟨rfl, hK⟩ := hK; exact r_begin1 (mn := (0 == 0)) hS (al := al) (ap := ap) (tcap := tcap) (pcap := pcap) hn hnp _ w hK⟩).bind fun m₁ T₁ H₁ => ?_
  obtain ⟨tb, H₁⟩ := H₁.ex
  obtain ⟨Ts, H₁⟩ := H₁.ex
  obtain ⟨⟨s1, s2, s3, s4⟩, H₁⟩ := H₁.and
  -- no task is nil
  refine (H₁.walk gone_stb fun g w hK => by
    obtain ⟨rfl, hK⟩ := hK
    obtain ⟨k1, hk1⟩ := c_run1 (Sh := Sh) (W := w) (main := (0 == 0))
    obtain ⟨kc, hkc⟩ := c_conT (main := (0 == 0)) (pre_ext hS hK.1) tcap (vrow_ext hP.tasks hK.1) (by omega) (fun u hu => by obtain ⟨ty, x, rfl⟩ := hif u hu; rfl) (f := 12) (cap := #[]) ⟨k1, fun x hx w' hw' => by obtain ⟨ty, y, rfl⟩ := hif x hx; exact hk1 _ _ w' hw'⟩
    exact ⟨20 + kc + 3, r_begin2 (mn := (0 == 0)) hS (np := ps.length) (pcap := pcap) _ w hK Ts s1 s2 s3 s4 hkc⟩).bind fun m₂ T₂ H₂ => ?_
  obtain ⟨Ts₂, H₂⟩ := H₂.ex
  obtain ⟨⟨p1, p2, p3, p4, p5⟩, H₂⟩ := H₂.and
  -- every pick is a task's
  refine (H₂.walk gone_stb fun g w hK => by
    obtain ⟨rfl, hK⟩ := hK
    have hbx := (hK.2 (tb, Obj.cells #[.slice al tvs.length tcap] 25 (0, 0)) (by simp)).2
    have hbc : w.cell? ⟨tb, 0, none⟩ = some (.slice al tvs.length tcap) := by simp only at hbx; simp [World.cell?, hbx]
    obtain ⟨k2, hk2⟩ := c_run2 (main := (0 == 0)) (pre_ext hS hK.1) hbc
    obtain ⟨kc, hkc⟩ := c_conI (main := (0 == 0)) (pre_ext hS hK.1) pcap (vrow_ext hP.picks hK.1) (by simp [ints]; omega) (fun u hu => by obtain ⟨x, _, rfl⟩ := List.mem_map.1 hu; rfl) (f := 14) (cap := #[pb tb]) ⟨k2, fun x hx w' hw' => by obtain ⟨y, hy, rfl⟩ := List.mem_map.1 hx; exact hk2 y w' (hps y hy) hw'⟩
    rw [show (ints ps).length = ps.length by simp [ints]] at hkc
    exact ⟨30 + kc + 3, r_begin3 (mn := (0 == 0)) hS hn _ w hK Ts₂ p1 p2 p3 p4 p5 hkc⟩).bind fun m₃ T₃ H₃ => ?_
  obtain ⟨eb, H₃⟩ := H₃.ex
  obtain ⟨ev, H₃⟩ := H₃.ex
  obtain ⟨wb, H₃⟩ := H₃.ex
  obtain ⟨Ts₃, H₃⟩ := H₃.ex
  obtain ⟨⟨q1, q2, q3, q4, q5⟩, H₃⟩ := H₃.and
  -- the group
  obtain ⟨gs, w, sl, q, Rd, B, cn, g, rfl, hgs, hg, ⟨rfl, hK⟩, hB, C⟩ := H₃
  obtain ⟨N, gs', d, sl', T', q', B', cn', hrun, hsz, hg', hgone, C'⟩ := C.toCrew.group (sl := sl) (o := Go.ConcR.wgBlock link.tWg 0 0) (a' := G (fRun (Ts₃.setIfInBounds 8 (pb w.heap.size)) (.inRegion ops9 [] :: .code cd7 :: [])) (b₀.at a₀ (.inRegion ops (j :: rest) :: kk) :: cs)) hB id (fun a h => h) (fun c h => h) hg rfl (fun d => g_group (mn := (0 == 0)) Ts₃ _ (w.at d))
  let c : Rc := { ks := [], wb := wb, ev := ev, wg := w.heap.size, N₀ := W.heap.size, B₀ := w.heap.size + 1, γ := γ, Sh := fun l => Sh l ∨ ∃ x : Addr, l = .cell x ∧ x.block = w.heap.size }
  have kwb := hK.2 (wb, mkW tvs.length) (by simp)
  have kev := hK.2 (ev, Obj.cells #[.slice (some ⟨eb, 0, none⟩) 0 0] 31 (0, 0)) (by simp)
  have keb := hK.2 (eb, Obj.cells #[] 70 (0, 0)) (by simp)
  have ktb := hK.2 (tb, Obj.cells #[.slice al tvs.length tcap] 25 (0, 0)) (by simp)
  simp only at kwb kev keb ktb
  have lt : ∀ {b : Nat} {o : Obj}, w.heap[b]? = some o → b < w.heap.size := fun h => (Array.getElem?_eq_some_iff.1 h).1
  have lwb := lt kwb.2
  have lev := lt kev.2
  have leb := lt keb.2
  have ltb := lt ktb.2
  have nwe : wb ≠ ev := fun e => by have := kwb.2; rw [e, kev.2] at this; simp at this
  have nwb : eb ≠ wb := fun e => by have := keb.2; rw [e, kwb.2] at this; simp at this
  have hshl : ∀ a, Sh (.cell a) → a.block < W.heap.size := fun a ha => by obtain ⟨_, _, hw⟩ := hS a ha; exact (Array.getElem?_eq_some_iff.1 hw).1
  have S : Rs c := by
    refine ⟨fun k k' r r' hk => by simp [c] at hk, fun r hr => by simp [c] at hr, fun r hr => by simp [c] at hr, ⟨kwb.1, by show wb < w.heap.size + 1; omega, by show wb ≠ w.heap.size; omega, nwe⟩, ⟨kev.1, by show ev < w.heap.size + 1; omega, by show ev ≠ w.heap.size; omega⟩, ⟨hK.1.size, by show w.heap.size < w.heap.size + 1; omega⟩, fun a ha => ?_, fun a ha => .inr ⟨a, rfl, ha⟩, hγ⟩
    rcases ha with ha | ⟨x, e, hx⟩
    · exact .inl (hshl a ha)
    · rw [Loc.cell.inj e]; exact .inr hx
  have hsz1 : ((w.at d).alloc (Go.ConcR.wgBlock link.tWg 0 0)).heap.size = w.heap.size + 1 := by rw [World.size_alloc]; rfl
  have C₂ : Crew Tryd.prog (c.X False) Vn 0 0 B' (fun _ _ => False) cn' T' gs' ((w.at d).alloc (Go.ConcR.wgBlock link.tWg 0 0)) q' := by
    refine C'.anew (X' := c.X False) hgone id (fun a h => ?_) (fun b hb => ?_) rfl (fun x h => ?_)
    · obtain ⟨r, hr, _⟩ := h; simp [c] at hr
    · have hb' : b < W.heap.size := hb
      have := hK.1.size
      rw [hsz1]; omega
    · obtain ⟨r, hr, _⟩ := h; simp [c] at hr
  have hold : ∀ b, b < w.heap.size → ((w.at d).alloc (Go.ConcR.wgBlock link.tWg 0 0)).heap[b]? = w.heap[b]? := fun b hb => heap_alloc_old (w.at d) _ b hb
  have hnew : ((w.at d).alloc (Go.ConcR.wgBlock link.tWg 0 0)).heap[w.heap.size]? = some (Go.ConcR.wgBlock link.tWg 0 0) := heap_alloc_new (w.at d) _
  have hcs : ∀ (k : Nat), k < tvs.length → (madeCells #[.pointer none] tvs.length)[k]? = some (.pointer none) := fun k hk => by simp [madeCells, hk, Nat.mod_one]
  have hSW : SW (t W) c tvs.length (m0 W) (.slice (some ⟨eb, 0, none⟩) 0 0) ((w.at d).alloc (Go.ConcR.wgBlock link.tWg 0 0)) := by
    refine ⟨fun k r hk => by simp [c] at hk, ⟨madeCells #[.pointer none] tvs.length, (hold wb lwb).trans kwb.2, by simp [madeCells], fun k r hk => by simp [c] at hk, fun k _ hk => hcs k hk⟩, hP.tm _ fun b hb => ?_, by rw [hsz1]; exact Nat.le_refl _, ?_, (hold ev lev).trans kev.2, ⟨by simp, .inr ⟨eb, 0, #[], rfl, Nat.zero_le _, (hold eb leb).trans keb.2, Nat.le_refl _, Nat.zero_le _, by simp, by simp⟩⟩, fun g hg => ?_⟩
    · have := hK.1.size
      exact (hold b (by omega)).trans (hK.1.same b hb id)
    · show Go.ConcR.WgAt link.tWg w.heap.size _ (((0 : Nat) : Int) * Go.ConcR.KK) 0
      rw [show (((0 : Nat) : Int) * Go.ConcR.KK) = 0 by simp]
      exact hnew
    · obtain rfl : eb = g := by simpa [Value.ownBlock] using hg
      exact ⟨keb.1, by show eb < w.heap.size + 1; omega, by show eb ≠ w.heap.size; omega, nwb, fun r hr => by simp [c] at hr⟩
  have H₄ : Held Tryd.prog (c.X False) Vn 0 0 γ (BysS (t W) c) (fun g w' => g = G (fRun (Ts₃.setIfInBounds 8 (pb w.heap.size)) (.inRegion ops9 [] :: .code cd7 :: [])) (b₀.at a₀ (.inRegion ops (j :: rest) :: kk) :: cs) ∧ SW (t W) c tvs.length (m0 W) (.slice (some ⟨eb, 0, none⟩) 0 0) w' ∧ w'.heap[tb]? = some (.cells #[.slice al tvs.length tcap] 25 (0, 0))) (crowd gs' ((w.at d).alloc (Go.ConcR.wgBlock link.tWg 0 0)) sl') T' :=
    ⟨gs', _, sl', q', _, B', cn', _, rfl, hsz.trans hgs, hg', ⟨rfl, hSW, (hold tb ltb).trans ktb.2⟩, ⟨fun j hj _ => hgone j (by omega), fun k r hk => by simp [c] at hk⟩, ⟨C₂, C.sys⟩⟩
  refine Lands.bind ⟨N, _, _, hrun, H₄⟩ fun m₄ T₄ H₄ => ?_
  have O : TasksOk (t W) c.N₀ Sh := hP.ok
  have hput : ∀ k, k ≠ 8 → (Ts₃.setIfInBounds 8 (pb w.heap.size))[k]? = Ts₃[k]? := fun k hk => by simp [Array.getElem?_setIfInBounds, Ne.symm hk]
  refine (H₄.walk (K' := fun g w' => Head1 (.slice ap ps.length pcap) (.slice (some ⟨wb, 0, none⟩) tvs.length tvs.length) (.slice al tvs.length tcap) tvs.length 0 c.wg c.ev (b₀.at a₀ (.inRegion ops (j :: rest) :: kk) :: cs) g ∧ SW (t W) c tvs.length (m0 W) (.slice (some ⟨eb, 0, none⟩) 0 0) w') bysS_stb fun g w' hK => ⟨20, ?_⟩).bind fun m₅ T₅ H₅ => ?_
  · obtain ⟨rfl, hQ'⟩ := hK
    refine goes_imp (fun _ _ x => x) (fun _ _ _ x => x) (fun g w h => ⟨h.1, h.2.1⟩) (r_begin4 (X := c.X False) (Q := fun w' => SW (t W) c tvs.length (m0 W) (.slice (some ⟨eb, 0, none⟩) 0 0) w' ∧ w'.heap[tb]? = some (.cells #[.slice al tvs.length tcap] 25 (0, 0))) (fun w w' h r => ⟨h.1.ext S O r, (r.same _ (Array.getElem?_eq_some_iff.1 h.2).1 id).trans h.2⟩) (fun w h => by simp [World.cell?, h.2]) (S.nsh (b := tb) ktb.1 (by show tb ≠ w.heap.size; omega) rfl) _ w' hQ' _ (by simpa using q1) ((hput 0 (by decide)).trans q2) ((hput 3 (by decide)).trans q3) ((hput 6 (by decide)).trans q4) ((hput 7 (by decide)).trans q5) (by simp [q1]; rfl))
  -- the rest
  have hne : ∀ k, ¬ Sh (.cell ⟨ev, k, none⟩) := fun k h => by have := hshl _ h; simp only at this; omega
  obtain ⟨tp, to', ht1, ht2, ht3, ht4⟩ := vrow_at hS hP.tasks (fun u hu => by obtain ⟨ty, x, rfl⟩ := hif u hu; rfl) ev hne
  obtain ⟨pp, po, hp1, hp2, hp3, hp4⟩ := vrow_at hS hP.picks (fun u hu => by obtain ⟨x, _, rfl⟩ := List.mem_map.1 hu; rfl) ev hne
  have hsize := hK.1.size
  have nwg : ∀ {b : Nat}, (∀ k, ¬ Sh (.cell ⟨b, k, none⟩)) → (b = ev ∨ b < W.heap.size) → ∀ k, ¬ c.Sh (.cell ⟨b, k, none⟩) := by
    intro b h1 h2 k h
    rcases h with h | ⟨x, e, hx⟩
    · exact h1 k h
    · rw [← Loc.cell.inj e] at hx
      simp only at hx
      rcases h2 with h2 | h2 <;> omega
  refine (run_loops (t := t W) (c := c) (Sh0 := Sh) (n := tvs.length) (m0 := m0 W) (u := .slice (some ⟨eb, 0, none⟩) 0 0) O (fun a ha => ?_) (by omega) ?_ ?_ (tkv := .slice al tvs.length tcap) (tp := tp) (to' := to') (tcap := tcap) ?_ (fun m w hw k hk => ?_) (nwg ht3 ht4)
    (a := ap) (p := pp) (o := po) (cap := pcap) (ncap := tvs.length) (ps := ps) ?_ hps (by omega) (fun m w hw j i hj => ?_) (nwg hp3 hp4) rfl S H₅).mono fun m' T' H => ⟨c.Sh, H.mono (fun g w' h => ?_) (fun _ _ h => h)⟩
  · rcases ha with ha | ⟨x, e, hx⟩
    · exact .inl ha
    · rw [Loc.cell.inj e]; exact .inr (by show W.heap.size ≤ x.block; omega)
  · exact hP.sum
  · exact hP.inv
  · rcases ht1 with h | h
    · exact .inl (by rw [h]; rfl)
    · exact .inr (by rw [h])
  · obtain ⟨v, hv⟩ : ∃ v, tvs[k]? = some v := ⟨_, List.getElem?_eq_getElem hk⟩
    obtain ⟨h1, h2⟩ := ht2 k _ hv
    have hne0 : tvs ≠ [] := fun e => by rw [e] at hk; simp at hk
    rw [cell_of_block (hP.frame m w hw _ h1 (hP.rowT _ _ (ht1.resolve_left hne0) hne0)), h2, hP.tvk k v hv]
  · rcases hp1 with h | h
    · exact .inl (by simpa [ints] using h)
    · exact .inr h
  · have hi : (ints ps)[j]? = some (.int .i64 (i : Int)) := by simp [ints, hj]
    obtain ⟨h1, h2⟩ := hp2 j _ hi
    have hne0 : ps ≠ [] := fun e => by rw [e] at hj; simp at hj
    rw [cell_of_block (hP.frame m w hw _ h1 (hP.rowP _ _ (hp1.resolve_left (fun e => hne0 (by simpa [ints] using e))) hne0)), h2]
  · obtain ⟨u, rfl, hT, hrow, hsz', hl⟩ := h
    refine ⟨W, u, rfl, hP, hQ, hsz', hP.frame _ _ hT, hT, fun a ha => ?_, hrow⟩
    rcases ha with ha | ⟨x, e, hx⟩
    · obtain ⟨st, sm, hw⟩ := hS a ha
      refine ⟨st, sm, ?_⟩
      unfold Go.ConcR.WgAt at hw ⊢
      rw [hP.frame _ _ hT _ (Array.getElem?_eq_some_iff.1 hw).1 (hP.sbs a ha)]
      exact hw
    · rw [Loc.cell.inj e, hx]; exact hl
end
end

/-! ### CwAd3 -/
section
set_option linter.unusedSimpArgs false
open Go Go.Conc Go.RowKit Go.ConcR.Gen Cw
open Go.ConcN (sumTo upd upd_same upd_ne sumTo_upd sumTo_congr le_sumTo WgLive)

/-- The text of a small number. -/
noncomputable def itoaB (n : Nat) : ByteArray := if h : n < 100 then (c_ita n h).choose_spec.choose else ⟨#[]⟩
theorem ita_spec (n : Nat) (hn : n < 100) : ∃ kc, ∀ (main : Bool) (R : World → World → Prop) (D : World → World → Array Event → Prop) (_ : Terms R D) (Q : World → Prop) (_ : ∀ w w', Q w → R w w' → Q w') (w : World), Q w → CallsC Tryd.prog main R D 8 #[.int .i64 n] kc w (fun r w' => r = .string (itoaB n) ∧ Q w') := by
  refine ⟨(c_ita n hn).choose, ?_⟩
  have h := (c_ita n hn).choose_spec.choose_spec
  have e : itoaB n = (c_ita n hn).choose_spec.choose := by unfold itoaB; rw [dif_pos hn]
  rw [e]
  exact h
abbrev LamD : Type := Nat × Option Nat
def valD (l : LamD) (m : Nat) : Nat := match l.2 with
  | none => m
  | some n => n + 1
def posD (l : LamD) : Nat := match l.2 with
  | none => l.1
  | some _ => l.1 + 1
noncomputable def nextD (tm : Nat) (l : LamD) (m : Nat) : Nat × Option (ByteArray × LamD) :=
  if posD l < tm then (valD l m, some (itoaB (valD l m), (posD l, some (valD l m)))) else (valD l m, none)
def rkD (tm : Nat) (l : LamD) : Nat := match l.2 with
  | none => tm - l.1 + 1
  | some _ => tm - l.1
def remD (tm : Nat) (l : LamD) : Nat := tm - posD l
def tvD (sb : Nat) (tm : Nat → Nat) (k : Nat) : Value := .iface 28 (.agg #[pb sb, .int .i64 (tm k)])
/-- What holds of every state: the count and what is pending are no more than the events; the events to come are few. -/
def InvD (tm : Nat → Nat) (N : Nat) (loc : Nat → LamD) (m e : Nat) : Prop := m ≤ e ∧ (∀ k j n, loc k = (j, some n) → n + 1 ≤ e) ∧ e + sumTo N (fun k => remD (tm k) (loc k)) ≤ 99 ∧ ∀ k, N ≤ k → loc k = (0, none)
noncomputable def addersT (W : World) (sb : Nat) (tm : Nat → Nat) (N : Nat) : Tasks where
  Λ := LamD
  M := Nat
  tv := tvD sb tm
  l0 := fun _ => (0, none)
  At := fun r wg ev k l b1 b2 ex g => (l = (0, none) ∧ g = at1 wg r.bw r.bt ev r.bi r.bs r.cr b1 b2 (tvD sb tm k)) ∨
    (∃ j n T ab xv, l = (j, some n) ∧ j < tm k ∧ (∀ a v, exD ab sb (tm k) a v → ex a v) ∧ (T.size = 23 ∧ T[1]? = some (yldF b1 b2) ∧ T[2]? = some (pb ab) ∧ T[4]? = some (.int .i64 n) ∧ T[6]? = some (.int .i64 (tm k)) ∧ T[7]? = some (.int .i64 j)) ∧
      g = atR r.bs r.cr r.cp b1 b2 ev r.bi (itoaB n) (fAd T (.inRegion opsD4 [3] :: todoD) :: [frR ev r.bi r.bs r.cr b1 b2 (tvD sb tm k) xv, fr3 wg r.bw r.bt ev r.bi r.bs (tvD sb tm k), bot]))
  Tm := fun (m : Nat) w => (∀ b, b < W.heap.size → b ≠ sb → w.heap[b]? = W.heap[b]?) ∧ w.heap[sb]? = some (.cells #[.int .i64 m] 3 (0, 0))
  next := fun k l m => nextD (tm k) l m
  rk := fun k l => rkD (tm k) l
  Inv := fun _ loc m e => InvD tm N loc m e

section
variable {W : World} {sb N : Nat} {tm : Nat → Nat}
theorem valD_le {l : LamD} {m e : Nat} (h1 : m ≤ e) (h2 : ∀ n, l.2 = some n → n + 1 ≤ e) : valD l m ≤ e := by
  obtain ⟨j, o⟩ := l
  cases o with
  | none => exact h1
  | some n => exact h2 n rfl
theorem invD_yield (hN : ∀ k, N ≤ k → tm k = 0) {loc : Nat → LamD} {m e k : Nat} (h : InvD tm N loc m e) (hp : posD (loc k) < tm k) : InvD tm N (upd loc k (posD (loc k), some (valD (loc k) m))) (valD (loc k) m) (e + 1) := by
  obtain ⟨h1, h2, h3, h4⟩ := h
  have hv : valD (loc k) m ≤ e := valD_le h1 fun n hn => h2 k (loc k).1 n (Prod.ext rfl hn)
  have hkN : k < N := by
    apply Nat.lt_of_not_le
    intro hk
    rw [hN k hk] at hp
    omega
  have hrem : remD (tm k) (posD (loc k), some (valD (loc k) m)) + 1 = remD (tm k) (loc k) := by
    show tm k - (posD (loc k) + 1) + 1 = tm k - posD (loc k)
    omega
  refine ⟨by omega, fun k' j n hk' => ?_, ?_, fun k' hk' => ?_⟩
  · by_cases e' : k' = k
    · subst e'
      rw [upd_same] at hk'
      cases hk'
      omega
    · rw [upd_ne _ _ e'] at hk'
      have := h2 k' j n hk'
      omega
  · have low : ∀ M, M ≤ k → sumTo M (fun k' => remD (tm k') (upd loc k (posD (loc k), some (valD (loc k) m)) k')) = sumTo M (fun k' => remD (tm k') (loc k')) := by
      intro M
      induction M with
      | zero => intro _; rfl
      | succ M ih => intro hM; rw [sumTo, sumTo, ih (by omega), upd_ne _ _ (by omega)]
    have key : ∀ M, k < M → sumTo M (fun k' => remD (tm k') (upd loc k (posD (loc k), some (valD (loc k) m)) k')) + 1 = sumTo M (fun k' => remD (tm k') (loc k')) := by
      intro M
      induction M with
      | zero => intro h; omega
      | succ M ih =>
        intro hM
        rw [sumTo, sumTo]
        by_cases e' : k = M
        · subst e'
          rw [low k (Nat.le_refl _), upd_same]
          omega
        · rw [upd_ne _ _ (fun h => e' h.symm)]
          have := ih (by omega)
          omega
    have := key N hkN
    omega
  · rw [upd_ne _ _ (by omega)]
    exact h4 k' hk'
theorem invD_end {loc : Nat → LamD} {m e k : Nat} (h : InvD tm N loc m e) : InvD tm N loc (valD (loc k) m) e := by
  obtain ⟨h1, h2, h3, h4⟩ := h
  exact ⟨valD_le h1 fun n hn => h2 k (loc k).1 n (Prod.ext rfl hn), h2, h3, h4⟩
theorem adders_inv (hN : ∀ k, N ≤ k → tm k = 0) (s : Sst (addersT W sb tm N)) (k : Nat) (h : (addersT W sb tm N).InvS s) : (addersT W sb tm N).InvS ((addersT W sb tm N).step k s) := by
  have h' : InvD tm N s.loc s.m s.E.length := h
  unfold Tasks.step
  cases he : s.en k with
  | true => exact h
  | false =>
    simp only [Bool.false_eq_true, if_false]
    have hn : (addersT W sb tm N).next k (s.loc k) s.m = nextD (tm k) (s.loc k) s.m := rfl
    rw [hn]
    unfold nextD
    by_cases hp : posD (s.loc k) < tm k
    · rw [if_pos hp]
      have := invD_yield hN h' hp
      unfold Tasks.InvS
      show InvD tm N _ _ (s.E ++ [_]).length
      rw [List.length_append]
      exact this
    · rw [if_neg hp]
      exact invD_end (k := k) h'
theorem adders_rk (k : Nat) (l : LamD) (m m' : Nat) (s : ByteArray) (l' : LamD) (h : nextD (tm k) l m = (m', some (s, l'))) : rkD (tm k) l' < rkD (tm k) l := by
  unfold nextD at h
  split at h
  · rename_i hp
    cases h
    obtain ⟨j, o⟩ := l
    cases o with
    | none =>
      have : j < tm k := hp
      show tm k - j < tm k - j + 1
      omega
    | some n =>
      have : j + 1 < tm k := hp
      show tm k - (j + 1) < tm k - j
      omega
  · cases h
end
end

/-! ### CwAd4 -/
section
set_option linter.unusedSimpArgs false
open Go Go.Conc Go.RowKit Go.ConcR.Gen Cw

section
variable {W : World} {sb N : Nat} {tm : Nat → Nat}
theorem WB.sub {B : Nat} {L L' : Addr → Value → Prop} {Tk Tk' : World → Prop} {w : World} (h : WB B L Tk w) (hL : ∀ a v, L' a v → L a v) (ht : Tk w → Tk' w) : WB B L' Tk' w :=
  ⟨fun a v hav => h.kl a v (hL a v hav), h.size, ht h.task, fun a v hav => h.lt a v (hL a v hav)⟩
abbrev TmD (W : World) (sb m : Nat) (w : World) : Prop := (∀ b, b < W.heap.size → b ≠ sb → w.heap[b]? = W.heap[b]?) ∧ w.heap[sb]? = some (.cells #[.int .i64 m] 3 (0, 0))
theorem tmD_cell {m : Nat} {w : World} (h : TmD W sb m w) : w.cell? ⟨sb, 0, none⟩ = some (.int .i64 m) := by simp [World.cell?, h.2]
theorem tmD_set {m n : Nat} {w : World} (h : TmD W sb m w) : TmD W sb n (w.setCell ⟨sb, 0, none⟩ (.int .i64 n)) := by
  refine ⟨fun b hb hne => ?_, ?_⟩
  · rw [heap_setCell_ne _ _ _ hne]; exact h.1 b hb hne
  · simp only [World.setCell, Array.getElem?_modify, if_true, h.2, Option.map_some]
    rfl
set_option maxHeartbeats 2000000 in
/-- From the loop's head to the end of the turn. -/
theorem d_head {X : Cx} {V : Nat → Prop} {B : Nat} {r : Wk} {wg ev k b1 b2 m0 : Nat} {l0 : LamD} {E : List (Int × ByteArray)} {Wr : World → Prop} {ex : Addr → Value → Prop} {j m : Nat}
    (hsh : ¬ X.Sh (.cell ⟨sb, 0, none⟩)) (hE : (E.length + 1) * 1024 ≤ 140737488355328) (hm : m < 100) (hnx : nextD (tm k) l0 m0 = if j < tm k then (m, some (itoaB m, (j, some m))) else (m, none)) (xv : Value) :
    ∃ Nn, ∀ (ab : Nat) (Kx : World → Prop) (ex' : Addr → Value → Prop), Fx X V B (LeanX r ev b1 b2 (tvD sb tm k) k ex') ev (fun w => (Wr w ∧ TmD W sb m w) ∧ Kx w) → (∀ a v, exD ab sb (tm k) a v → ex' a v) → (∀ a v, ex a v → ex' a v) → (∀ w, Kx w → ∀ a v, ex' a v → ex a v ∨ (Prot X w a ∧ ¬ X.Sh (.cell a) ∧ a.block ≠ ev)) →
      ∀ T w, T.size = 23 → T[1]? = some (yldF b1 b2) → T[2]? = some (pb ab) → T[6]? = some (.int .i64 (tm k)) → T[7]? = some (.int .i64 j) →
      WB B (LeanX r ev b1 b2 (tvD sb tm k) k ex') (fun w => (Wr w ∧ TmD W sb m w) ∧ Kx w) w ∧ (∃ u, Evs X V ev E u w) →
      Goes Tryd.prog false (Ext V) (HDq X) ((addersT W sb tm N).Turned X V B r wg ev k l0 m0 b1 b2 E Wr ex) Nn (headD T [frR ev r.bi r.bs r.cr b1 b2 (tvD sb tm k) xv, fr3 wg r.bw r.bt ev r.bi r.bs (tvD sb tm k), bot]) w := by
  have hT : ∀ a b c, Ext V a b → Ext V b c → Ext V a c := fun _ _ _ h r => h.trans r
  by_cases hj : j < tm k
  · rw [if_pos hj] at hnx
    obtain ⟨kc, hk⟩ := ita_spec m hm
    refine ⟨(10 + kc + 3 + 40) + 60, fun ab Kx ex' fx hexD hold hnew T w hTs h1 h2 h6 h7 hF => ?_⟩
    have hq : ∀ w w', Ext V w w' → (∃ u, Evs X V ev E u w) → ∃ u, Evs X V ev E u w' := fun w w' r h => h.imp fun u hu => evs_rl fx w w' r hu
    refine goes_then hT (S := fun g w => (∃ T', (T'.size = 23 ∧ T'[1]? = some (yldF b1 b2) ∧ T'[2]? = some (pb ab) ∧ T'[4]? = some (.int .i64 m) ∧ T'[6]? = some (.int .i64 (tm k)) ∧ T'[7]? = some (.int .i64 j)) ∧ g = G ((base 39).at ⟨#[.string (itoaB m), pb b2, pb b1, undef, undef, undef, undef, undef, undef, undef, undef, undef, undef, undef, undef, undef], []⟩ [.code bodyY])
      (fAd T' (.inRegion opsD4 [3] :: todoD) :: [frR ev r.bi r.bs r.cr b1 b2 (tvD sb tm k) xv, fr3 wg r.bw r.bt ev r.bi r.bs (tvD sb tm k), bot])) ∧ WB B (LeanX r ev b1 b2 (tvD sb tm k) k ex') (fun w => (Wr w ∧ TmD W sb m w) ∧ Kx w) w ∧ ∃ u, Evs X V ev E u w) (fun g w h => ?_) (Ext.refl V w)
      (d_yield fx hq (sb := sb) (tm := tm k) (ab := ab) (.inr (hexD _ _ (.inl ⟨rfl, rfl⟩))) (fun w h => tmD_cell h.1.2) hsh hj hk _ w hF T hTs h1 h2 h6 h7) (fun a => Ext.refl V a)
    obtain ⟨⟨T', hT', rfl⟩, hW, u, hu⟩ := h
    refine goes_imp (fun _ _ x => x) (fun _ _ _ x => x) (fun g w h => ?_) (y_walk (fun _ _ h => .inl h) fx (itoaB m) hE _ w ⟨hW, hu⟩)
    obtain ⟨rfl, h2, u', h3⟩ := h
    exact .inl ⟨m, itoaB m, (j, some m), _, u', ex', hnx, rfl, .inr ⟨j, m, T', ab, xv, rfl, hj, hexD, hT', rfl⟩, h2.sub (fun _ _ x => x) (fun x => x.1), fun a v hav => hnew w h2.task.2 a v hav, h3⟩
  · rw [if_neg hj] at hnx
    refine ⟨20 + 9, fun ab Kx ex' fx hexD hold hnew T w hTs h1 h2 h6 h7 hF => ?_⟩
    have hq : ∀ w w', Ext V w w' → (∃ u, Evs X V ev E u w) → ∃ u, Evs X V ev E u w' := fun w w' r h => h.imp fun u hu => evs_rl fx w w' r hu
    refine d_end hT ev r.bi r.bs r.cr b1 b2 (tvD sb tm k) xv hj _ w T hTs h6 h7 ?_
    refine goes_imp (fun _ _ x => x) (fun _ _ _ x => x) (fun g w h => ?_) (x_walk (fun _ _ h => .inl h) fx hq xv _ w hF)
    obtain ⟨rfl, h2, u, h3⟩ := h
    exact .inr ⟨m, xv, u, hnx, rfl, h2.sub (fun a v h => h.imp id (hold a v)) (fun x => x.1), h3⟩
set_option maxHeartbeats 4000000 in
theorem adders_turn {Sh0 : Loc → Prop} (hS0 : ShOk Sh0 W) {m00 : Nat} (hsb : W.heap[sb]? = some (.cells #[.int .i64 m00] 3 (0, 0))) (htm : ∀ k, tm k ≤ 500) (X : Cx) (V : Nat → Prop) (B : Nat) (r : Wk) (wg ev k : Nat) (l : LamD) (m : Nat) (b1 b2 : Nat) (E : List (Int × ByteArray)) (u xv : Value) (Wr : World → Prop) (ex : Addr → Value → Prop) (w : World) (g : Goroutine)
    (loc : Nat → LamD) (hI : InvD tm N loc m E.length) (hl : loc k = l) (hAt : (addersT W sb tm N).At r wg ev k l b1 b2 ex g)
    (fx : ∀ m : Nat, Fx X V B (LeanX r ev b1 b2 (tvD sb tm k) k ex) ev (fun w => Wr w ∧ TmD W sb m w)) (hok : ∀ b, b < W.heap.size → Ok { X with Ex := fun _ => False, Sh := fun _ => False } V b) (hWr : ∀ w a v, a.block < W.heap.size → Wr w → Wr (w.setCell a v)) (hShs : ∀ a, X.Sh (.cell a) → Sh0 (.cell a) ∨ W.heap.size ≤ a.block) (hExs : ∀ b, b < W.heap.size → X.Ex b) (hev : W.heap.size ≤ ev)
    (hlow : ∀ a v, LeanX r ev b1 b2 (tvD sb tm k) k ex a v → W.heap.size ≤ a.block) (hE : (E.length + 1) * 1024 ≤ 140737488355328) (hF : WB B (LeanX r ev b1 b2 (tvD sb tm k) k ex) (fun w => Wr w ∧ TmD W sb m w) w ∧ Evs X V ev E u w) :
    ∃ Nn, Goes Tryd.prog false (Ext V) (HDq X) ((addersT W sb tm N).Turned X V B r wg ev k l m b1 b2 E Wr ex) Nn (Go.Conc.served g xv) w := by
  obtain ⟨i1, i2, i3, i4⟩ := hI
  have hlt : sb < W.heap.size := (Array.getElem?_eq_some_iff.1 hsb).1
  have hsbc : W.cell? ⟨sb, 0, none⟩ = some (.int .i64 m00) := by simp [World.cell?, hsb]
  have hsh : ¬ X.Sh (.cell ⟨sb, 0, none⟩) := fun h => by
    rcases hShs _ h with h | h
    · exact sh_no hS0 hsbc rfl h
    · simp only at h; omega
  have hT : ∀ a b c, Ext V a b → Ext V b c → Ext V a c := fun _ _ _ h r => h.trans r
  have OK := hok sb hlt
  have hq : ∀ w w', Ext V w w' → (∃ u, Evs X V ev E u w) → ∃ u, Evs X V ev E u w' := fun w w' r h => h.imp fun u hu => evs_rl (fx m) w w' r hu
  rcases hAt with ⟨rfl, rfl⟩ | ⟨j, n, T, ab, xv', rfl, hj, hexD, ⟨hTs, h1, h2, h4, h6, h7⟩, rfl⟩
  · -- the first turn
    obtain ⟨Nn, hN⟩ := d_head (W := W) (sb := sb) (N := N) (tm := tm) (X := X) (V := V) (B := B) (r := r) (wg := wg) (ev := ev) (k := k) (b1 := b1) (b2 := b2) (m0 := m) (l0 := (0, none)) (E := E) (Wr := Wr) (ex := ex) (j := 0) (m := m) hsh hE (by omega) rfl xv
    refine ⟨(30 + Nn) + 5, ?_⟩
    refine d_begin hT wg r.bw r.bt ev r.bi r.bs r.cr b1 b2 (.agg #[pb sb, .int .i64 (tm k)]) xv w ?_
    refine goes_then hT (fun g w h => ?_) (Ext.refl V w) (d_entry (fx m) hq (fun w o h => h.imp fun u hu => hu.alloc o) (sb := sb) (tm := tm k) (yf := yldF b1 b2) _ w ⟨hF.1, u, hF.2⟩) (fun a => Ext.refl V a)
    obtain ⟨ab, T, ⟨hTs, h1, h2, h6, h7⟩, hb, rfl, ⟨hW, hu⟩, hbox⟩ := h
    have fx1 : Fx X V B (LeanX r ev b1 b2 (tvD sb tm k) k (fun a v => ex a v ∨ exD ab sb (tm k) a v)) ev (fun w => Wr w ∧ TmD W sb m w) := (fx m).more fun a v hav => by
      rcases hav with hav | hav | ⟨rfl, _⟩ | ⟨rfl, _⟩
      · exact .inl (.inl hav)
      · exact .inl (.inr hav)
      · exact .inr hb
      · exact .inr hb
    have hok' := (fx m).floor.ok hb
    have hne : ab ≠ ev := by have := (fx m).evlt; omega
    have hnotEv : ∀ w : World, w.heap[ab]? = some (.cells #[pb sb, .int .i64 (tm k)] 28 (0, 0)) → NotEv w ab := fun w h cs hc => by rw [h] at hc; cases hc
    refine hN ab (fun w => w.heap[ab]? = some (.cells #[pb sb, .int .i64 (tm k)] 28 (0, 0))) _ ⟨fx1.floor, fx1.bx, fx1.ok, fx1.evlt, fx1.nv, fun w w' r h => ⟨fx1.keepR w w' r h.1, (r.same ab (Array.getElem?_eq_some_iff.1 h.2).1 hok'.nv).trans h.2⟩,
      fun w w' r h => ⟨fx1.keepO w w' r h.1, (r.same ab (Array.getElem?_eq_some_iff.1 h.2).1 hne (.inl (hnotEv w h.2))).trans h.2⟩⟩ (fun a v h => .inr h) (fun a v h => .inl h) (fun w hK a v hav => ?_) T w hTs h1 h2 h6 h7 ⟨⟨fun a v hav => ?_, hW.size, ⟨hW.task, hbox⟩, fun a v hav => ?_⟩, hu⟩
    · rcases hav with hav | hav
      · exact .inl hav
      · have hbx : BoxAt X w ab := ⟨_, _, hK, by rw [(fx m).bx]; exact .inr rfl, hok'.ex, fun k n => by simp⟩
        refine .inr ?_
        rcases hav with ⟨rfl, _⟩ | ⟨rfl, _⟩
        · exact ⟨.inr ⟨rfl, rfl, hbx⟩, hok'.sh _ rfl, hne⟩
        · exact ⟨.inr ⟨rfl, rfl, hbx⟩, hok'.sh _ rfl, hne⟩
    · rcases hav with hav | hav | ⟨rfl, rfl⟩ | ⟨rfl, rfl⟩
      · exact hW.kl a v (.inl hav)
      · exact hW.kl a v (.inr hav)
      · simp [World.cell?, hbox]
      · simp [World.cell?, hbox]
    · rcases hav with hav | hav | ⟨rfl, _⟩ | ⟨rfl, _⟩
      · exact hW.lt a v (.inl hav)
      · exact hW.lt a v (.inr hav)
      · exact hnotEv w hbox
      · exact hnotEv w hbox
  · -- behind a yield
    have hn1 : n + 1 ≤ E.length := i2 k j n hl
    have hjk := htm k
    obtain ⟨Nn, hN⟩ := d_head (W := W) (sb := sb) (N := N) (tm := tm) (X := X) (V := V) (B := B) (r := r) (wg := wg) (ev := ev) (k := k) (b1 := b1) (b2 := b2) (m0 := m) (l0 := (j, some n)) (E := E) (Wr := Wr) (ex := ex) (j := j + 1) (m := n + 1) hsh hE (by omega) rfl xv'
    refine ⟨(40 + Nn) + 3, ?_⟩
    have fx' : Fx X V B (LeanX r ev b1 b2 (tvD sb tm k) k ex) ev (fun w => (Wr w ∧ TmD W sb (n + 1) w) ∧ True) :=
      ⟨(fx m).floor, (fx m).bx, (fx m).ok, (fx m).evlt, (fx m).nv, fun w w' r h => ⟨(fx (n + 1)).keepR w w' r h.1, trivial⟩, fun w w' r h => ⟨(fx (n + 1)).keepO w w' r h.1, trivial⟩⟩
    refine y_on hT r.bs r.cr r.cp b1 b2 ev r.bi (itoaB n) xv _ w ?_
    refine goes_then hT (fun g w h => ?_) (Ext.refl V w) (d_store (fx m) fx' hq (sb := sb) (tm := tm k) (ab := ab) (j := j) (m := n) (yf := yldF b1 b2) (.inr (hexD _ _ (.inl ⟨rfl, rfl⟩))) (by omega) (by omega) (fun w h => ?_) (fun w es h hes => ?_) (fun w h => ⟨⟨_, tmD_cell h.2⟩, by simp [World.frozen?, h.2.2]⟩) _ w ⟨hF.1, u, hF.2⟩ T hTs h1 h2 h4 h6 h7) (fun a => Ext.refl V a)
    · obtain ⟨⟨T', ⟨a0, a1, a2, a6, a7⟩, rfl⟩, hW, hu⟩ := h
      exact hN ab (fun _ => True) ex fx' hexD (fun a v h => h) (fun w _ a v h => .inl h) T' w a0 a1 a2 a6 a7 ⟨hW, hu⟩
    · have hs := fun {b : Nat} (hb : b ≠ sb) => heap_setCell_ne w ⟨sb, 0, none⟩ (.int .i64 ((n + 1 : Nat) : Int)) hb
      refine ⟨⟨fun a v hav => ?_, by rw [size_setCell']; exact h.1.size, ⟨⟨hWr _ _ _ hlt h.1.task.1, tmD_set h.1.task.2⟩, trivial⟩, fun a v hav cs => ?_⟩, h.2.imp fun u hu => ?_⟩
      · have := hlow a v hav
        rw [cell_of_block (hs (by omega))]; exact h.1.kl a v hav
      · have := hlow a v hav
        rw [hs (by omega)]; exact h.1.lt a v hav cs
      · refine ⟨(hs (by omega)).trans hu.cell, ⟨hu.row.1, ?_⟩, hu.ok⟩
        rcases hu.row.2 with hn | ⟨g, cap, cur, rfl, hb, hgg, rest⟩
        · exact .inl hn
        · exact .inr ⟨g, cap, cur, rfl, hb, (hs fun e => (hu.ok g rfl).ex (by rw [e]; exact hExs sb hlt)).trans hgg, rest⟩
    · refine hdq_write (OK.st _ rfl) ?_ (fun c hc e => OK.ch (by have e1 : c = sb := e; rw [← e1]; exact hc)) OK.wg hsh (Array.getElem?_eq_some_iff.1 h.1.task.2.2).1 (fun a' ha' => cell_of_block (heap_setCell_ne w _ _ fun e => OK.st a' e ha')) hes
      rintro ⟨cs, ty, _, _, hx, _⟩
      exact hx (hExs sb hlt)
theorem adders_ok {Sh0 : Loc → Prop} (hS0 : ShOk Sh0 W) {m00 : Nat} (hsb : W.heap[sb]? = some (.cells #[.int .i64 m00] 3 (0, 0))) (hN : ∀ k, N ≤ k → tm k = 0) (htm : ∀ k, tm k ≤ 500) : TasksOk (addersT W sb tm N) W.heap.size Sh0 where
  old := fun m w w' h hw => ⟨fun b hb hne => (h b hb).trans (hw.1 b hb hne), (h sb (Array.getElem?_eq_some_iff.1 hsb).1).trans hw.2⟩
  tvi := fun k => ⟨_, _, rfl⟩
  birth := fun r wg ev k b1 b2 => .inl ⟨rfl, rfl⟩
  rk := fun k l m m' s l' h => adders_rk k l m m' s l' h
  inv := adders_inv hN
  turn := fun X V B r wg ev k l m b1 b2 E u xv Wr ex w g hst hAt fx hok hWr hShs hExs hev hlow hE hF => by
    obtain ⟨s, hI, _, hl, hm, hEs⟩ := hst
    have hI' : InvD tm N s.loc m E.length := by rw [← hm, ← hEs]; exact hI
    exact adders_turn hS0 hsb htm X V B r wg ev k l m b1 b2 E u xv Wr ex w g s.loc hI' hl hAt fx hok hWr hShs hExs hev hlow hE hF
end
end
end Go.Proofs.YtggfcdhkgldbfaaDoor
