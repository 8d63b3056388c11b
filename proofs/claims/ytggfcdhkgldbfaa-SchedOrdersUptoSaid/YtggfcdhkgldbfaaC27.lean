/-
  PARTS of a claim, merged by segs.py: CwRun2, CwAwk2, CwPl.
-/
import Derived.Test.YtggfcdhkgldbfaaC26
namespace Go.Proofs.Ytggfcdhkgldbfaa
set_option linter.unusedSimpArgs false
set_option linter.unusedVariables false

/-! ### CwRun2 -/
section
set_option linter.unusedSimpArgs false
open Go Go.Conc Go.RowKit Go.ConcR.Gen Cw
open Go.ConcN (sumTo upd upd_same upd_ne sumTo_upd sumTo_congr le_sumTo WgLive)

/-- The world at a call of sched.Run. -/
structure Pre (Sh : Loc → Prop) (al ap : Option Addr) (us : List Value) (L : List (List ByteArray)) (ps : List Nat) (W : World) : Prop where
  sh : ShOk Sh W
  tasks : VRow W al (ifs us)
  picks : VRow W ap (ints ps)
  rows : ∀ k, ∃ a c, slK us k = .slice a (Sk L k).length c ∧ Nts a (Sk L k) W
/-- What is old stands. -/
def Keep (W w : World) : Prop := W.heap.size ≤ w.heap.size ∧ ∀ b, b < W.heap.size → w.heap[b]? = W.heap[b]?
noncomputable def entryT (x y : Value) : Array Value := #[x, y, undef, undef, undef, undef, undef, undef, undef, undef, undef, undef, undef, undef, undef, undef, undef, undef, undef, undef, undef, undef, undef, undef, undef, undef, undef, undef, undef, undef, undef, undef, undef, undef, undef, undef, undef, undef, undef, undef, undef, undef, undef, undef, undef, undef, undef, undef, undef, undef, undef, undef, undef, undef, undef, undef, undef, undef, undef, undef, undef, undef, undef, undef, undef, undef, undef, undef, undef, undef, undef, undef, undef, undef, undef, undef, undef, undef, undef]
theorem pre_ext {Sh : Loc → Prop} {W w : World} (h : ShOk Sh W) (r : Ext Vn W w) : ShOk Sh w := fun a ha => by
  obtain ⟨st, sm, hw⟩ := h a ha
  refine ⟨st, sm, ?_⟩
  unfold Go.ConcR.WgAt at hw ⊢
  rw [r.same _ (Array.getElem?_eq_some_iff.1 hw).1 id]
  exact hw
theorem vrow_ext {W w : World} {a : Option Addr} {us : List Value} (h : VRow W a us) (r : Ext Vn W w) : VRow w a us := by
  rcases h with h | ⟨b, o, ha, hc⟩
  · exact .inl h
  · exact .inr ⟨b, o, ha, fun k u hk => cell_ext r (hc k u hk)⟩
/-- The place of a row, some place where there is none. -/
theorem vrow_at {Sh : Loc → Prop} {W : World} (hS : ShOk Sh W) {a : Option Addr} {us : List Value} (h : VRow W a us) (hx : ∀ u ∈ us, notWg u = true) (e : Nat) (he : ∀ k, ¬ Sh (.cell ⟨e, k, none⟩)) : ∃ b o, (us = [] ∨ a = some ⟨b, o, none⟩) ∧ (∀ (k : Nat) (u : Value), us[k]? = some u → b < W.heap.size ∧ W.cell? ⟨b, o + k, none⟩ = some u) ∧ (∀ k, ¬ Sh (.cell ⟨b, k, none⟩)) ∧ (b = e ∨ b < W.heap.size) := by
  rcases h with h | ⟨b, o, ha, hc⟩
  · exact ⟨e, 0, .inl h, fun k u hk => by rw [h] at hk; simp at hk, he, .inl rfl⟩
  · cases us with
    | nil => exact ⟨e, 0, .inl rfl, fun k u hk => by simp at hk, he, .inl rfl⟩
    | cons x r =>
      have h0 := hc 0 x rfl
      have hb := block_of_cell h0
      exact ⟨b, o, .inr ha, fun k u hk => ⟨hb, hc k u hk⟩, fun k hs => by
        obtain ⟨st, sm, hw⟩ := hS _ hs
        exact wg_no hw h0 (hx x (by simp)), .inr hb⟩
section
variable {Sh : Loc → Prop} {al ap : Option Addr} {us : List Value} {L : List (List ByteArray)} {ps : List Nat}
set_option maxHeartbeats 2000000 in
theorem run_notes [Ref] {γ tcap pcap : Nat} {Q : World → Prop} (hγ : 1 ≤ γ) (hn : us.length ≤ 64) (hnp : ps.length ≤ 4096) (hps : ∀ i ∈ ps, i < us.length) (hus : ∀ u ∈ us, IsSl u) (hLb : ∀ k, (Sk L k).length ≤ 1000000)
    {b₀ : Frame} {a₀ : Act} {ops : Array Oper} {j : Nat} {rest : List Nat} {kk : List Item} {cs : List Frame} {m : Machine} {T : Trace}
    (H : Held Try.prog (Cx0 Sh) Vn 0 0 γ Gone (fun g w => g = G (fRun (entryT (.slice ap ps.length pcap) (.slice al us.length tcap)) [.code bodyM]) (b₀.at a₀ (.inRegion ops (j :: rest) :: kk) :: cs) ∧ Pre Sh al ap us L ps w ∧ Q w) m T) :
    Lands Try.prog m T (fun m' T' => ∃ Sh', Held Try.prog (Cx0 Sh') Vn 0 0 (γ + us.length) Gone (fun g w => ∃ W u, g = G (b₀.at (a₀.put ((ops[j]?).bind (·.dst)) (.tuple #[u, .int .i64 0])) (.inRegion ops rest :: kk)) cs ∧ Pre Sh al ap us L ps W ∧ Q W ∧ Keep W w ∧ ShOk Sh' w ∧
      w.ownsRow W.heap.size 40 2 u ((notesT W us L).fin () us.length ps).E.length (evCells ((notesT W us L).fin () us.length ps).E)) m' T') := by
  obtain ⟨gs, W, sl, q, Rd, B, cn, g, rfl, hgs, hg, ⟨rfl, hP, hQ⟩, hB, C⟩ := H
  have hS := hP.sh
  have hlen : (ifs us).length = us.length := by simp [ifs]
  have H₀ : Held Try.prog (Cx0 Sh) Vn 0 0 γ Gone (fun g w => g = G (fRun (entryT (.slice ap ps.length pcap) (.slice al us.length tcap)) [.code bodyM]) (b₀.at a₀ (.inRegion ops (j :: rest) :: kk) :: cs) ∧ Kn W [] w) (crowd gs W sl) T := ⟨gs, W, sl, q, Rd, B, cn, _, rfl, hgs, hg, ⟨rfl, Ext.refl Vn W, by simp⟩, hB, C⟩
  clear hg hB C
  -- to the first test
  refine (H₀.walk gone_stb fun g w hK => ⟨40, by obtain ⟨rfl, hK⟩ := hK; exact r_begin1 (mn := (0 == 0)) hS (al := al) (ap := ap) (tcap := tcap) (pcap := pcap) hn hnp _ w hK⟩).bind fun m₁ T₁ H₁ => ?_
  obtain ⟨tb, H₁⟩ := H₁.ex
  obtain ⟨Ts, H₁⟩ := H₁.ex
  obtain ⟨⟨s1, s2, s3, s4⟩, H₁⟩ := H₁.and
  -- no task is nil
  refine (H₁.walk gone_stb fun g w hK => by
    obtain ⟨rfl, hK⟩ := hK
    obtain ⟨k1, hk1⟩ := c_run1 (Sh := Sh) (W := w) (main := (0 == 0))
    obtain ⟨kc, hkc⟩ := c_conT (main := (0 == 0)) (pre_ext hS hK.1) tcap (vrow_ext hP.tasks hK.1) (by rw [hlen]; omega) (fun u hu => by obtain ⟨x, _, rfl⟩ := List.mem_map.1 hu; rfl) (f := 15) (cap := #[]) ⟨k1, fun x hx w' hw' => by obtain ⟨y, _, rfl⟩ := List.mem_map.1 hx; exact hk1 _ _ w' hw'⟩
    rw [hlen] at hkc
    exact ⟨20 + kc + 3, r_begin2 (mn := (0 == 0)) hS (np := ps.length) (pcap := pcap) _ w hK Ts s1 s2 s3 s4 hkc⟩).bind fun m₂ T₂ H₂ => ?_
  obtain ⟨Ts₂, H₂⟩ := H₂.ex
  obtain ⟨⟨p1, p2, p3, p4, p5⟩, H₂⟩ := H₂.and
  -- every pick is a task's
  refine (H₂.walk gone_stb fun g w hK => by
    obtain ⟨rfl, hK⟩ := hK
    have hbx := (hK.2 (tb, Obj.cells #[.slice al us.length tcap] 32 (0, 0)) (by simp)).2
    have hbc : w.cell? ⟨tb, 0, none⟩ = some (.slice al us.length tcap) := by simp only at hbx; simp [World.cell?, hbx]
    obtain ⟨k2, hk2⟩ := c_run2 (main := (0 == 0)) (pre_ext hS hK.1) hbc
    obtain ⟨kc, hkc⟩ := c_conI (main := (0 == 0)) (pre_ext hS hK.1) pcap (vrow_ext hP.picks hK.1) (by simp [ints]; omega) (fun u hu => by obtain ⟨x, _, rfl⟩ := List.mem_map.1 hu; rfl) (f := 17) (cap := #[pb tb]) ⟨k2, fun x hx w' hw' => by obtain ⟨y, hy, rfl⟩ := List.mem_map.1 hx; exact hk2 y w' (hps y hy) hw'⟩
    rw [show (ints ps).length = ps.length by simp [ints]] at hkc
    exact ⟨30 + kc + 3, r_begin3 (mn := (0 == 0)) hS hn _ w hK Ts₂ p1 p2 p3 p4 p5 hkc⟩).bind fun m₃ T₃ H₃ => ?_
  obtain ⟨eb, H₃⟩ := H₃.ex
  obtain ⟨ev, H₃⟩ := H₃.ex
  obtain ⟨wb, H₃⟩ := H₃.ex
  obtain ⟨Ts₃, H₃⟩ := H₃.ex
  obtain ⟨⟨q1, q2, q3, q4, q5⟩, H₃⟩ := H₃.and
  -- the group
  obtain ⟨gs, w, sl, q, Rd, B, cn, g, rfl, hgs, hg, ⟨rfl, hK⟩, hB, C⟩ := H₃
  obtain ⟨N, gs', d, sl', T', q', B', cn', hrun, hsz, hg', hgone, C'⟩ := C.toCrew.group (sl := sl) (o := Go.ConcR.wgBlock link.tWg 0 0) (a' := G (fRun (Ts₃.setIfInBounds 8 (pb w.heap.size)) (.inRegion ops9 [] :: .code cd7 :: [])) (b₀.at a₀ (.inRegion ops (j :: rest) :: kk) :: cs)) hB id (fun a h => h) (fun c h => h) hg rfl (fun d => g_group (mn := (0 == 0)) Ts₃ _ (w.at d))
  let c : Rc := { ks := [], wb := wb, ev := ev, wg := w.heap.size, N₀ := W.heap.size, B₀ := w.heap.size + 1, γ := γ, Sh := fun l => Sh l ∨ ∃ x : Addr, l = .cell x ∧ x.block = w.heap.size }
  have kwb := hK.2 (wb, mkW us.length) (by simp)
  have kev := hK.2 (ev, Obj.cells #[.slice (some ⟨eb, 0, none⟩) 0 0] 28 (0, 0)) (by simp)
  have keb := hK.2 (eb, Obj.cells #[] 40 (0, 0)) (by simp)
  have ktb := hK.2 (tb, Obj.cells #[.slice al us.length tcap] 32 (0, 0)) (by simp)
  simp only at kwb kev keb ktb
  have lt : ∀ {b : Nat} {o : Obj}, w.heap[b]? = some o → b < w.heap.size := fun h => (Array.getElem?_eq_some_iff.1 h).1
  have lwb := lt kwb.2
  have lev := lt kev.2
  have leb := lt keb.2
  have ltb := lt ktb.2
  have nwe : wb ≠ ev := fun e => by have := kwb.2; rw [e, kev.2] at this; simp at this
  have nwb : eb ≠ wb := fun e => by have := keb.2; rw [e, kwb.2] at this; simp at this
  have hshl : ∀ a, Sh (.cell a) → a.block < W.heap.size := fun a ha => by obtain ⟨_, _, hw⟩ := hS a ha; exact (Array.getElem?_eq_some_iff.1 hw).1
  have S : Rs c := by
    refine ⟨fun k k' r r' hk => by simp [c] at hk, fun r hr => by simp [c] at hr, fun r hr => by simp [c] at hr, ⟨kwb.1, by show wb < w.heap.size + 1; omega, by show wb ≠ w.heap.size; omega, nwe⟩, ⟨kev.1, by show ev < w.heap.size + 1; omega, by show ev ≠ w.heap.size; omega⟩, ⟨hK.1.size, by show w.heap.size < w.heap.size + 1; omega⟩, fun a ha => ?_, fun a ha => .inr ⟨a, rfl, ha⟩, hγ⟩
    rcases ha with ha | ⟨x, e, hx⟩
    · exact .inl (hshl a ha)
    · rw [Loc.cell.inj e]; exact .inr hx
  have hsz1 : ((w.at d).alloc (Go.ConcR.wgBlock link.tWg 0 0)).heap.size = w.heap.size + 1 := by rw [World.size_alloc]; rfl
  have C₂ : Crew Try.prog (c.X False) Vn 0 0 B' (fun _ _ => False) cn' T' gs' ((w.at d).alloc (Go.ConcR.wgBlock link.tWg 0 0)) q' := by
    refine C'.anew (X' := c.X False) hgone id (fun a h => ?_) (fun b hb => ?_) rfl (fun x h => ?_)
    · obtain ⟨r, hr, _⟩ := h; simp [c] at hr
    · have hb' : b < W.heap.size := hb
      have := hK.1.size
      rw [hsz1]; omega
    · obtain ⟨r, hr, _⟩ := h; simp [c] at hr
  have hold : ∀ b, b < w.heap.size → ((w.at d).alloc (Go.ConcR.wgBlock link.tWg 0 0)).heap[b]? = w.heap[b]? := fun b hb => heap_alloc_old (w.at d) _ b hb
  have hnew : ((w.at d).alloc (Go.ConcR.wgBlock link.tWg 0 0)).heap[w.heap.size]? = some (Go.ConcR.wgBlock link.tWg 0 0) := heap_alloc_new (w.at d) _
  have hcs : ∀ (k : Nat), k < us.length → (madeCells #[.pointer none] us.length)[k]? = some (.pointer none) := fun k hk => by simp [madeCells, hk, Nat.mod_one]
  have hSW : SW (notesT W us L) c us.length () (.slice (some ⟨eb, 0, none⟩) 0 0) ((w.at d).alloc (Go.ConcR.wgBlock link.tWg 0 0)) := by
    refine ⟨fun k r hk => by simp [c] at hk, ⟨madeCells #[.pointer none] us.length, (hold wb lwb).trans kwb.2, by simp [madeCells], fun k r hk => by simp [c] at hk, fun k _ hk => hcs k hk⟩, fun b hb => ?_, by rw [hsz1]; exact Nat.le_refl _, ?_, (hold ev lev).trans kev.2, ⟨by simp, .inr ⟨eb, 0, #[], rfl, Nat.zero_le _, (hold eb leb).trans keb.2, Nat.le_refl _, Nat.zero_le _, by simp, by simp⟩⟩, fun g hg => ?_⟩
    · have := hK.1.size
      exact (hold b (by omega)).trans (hK.1.same b hb id)
    · show Go.ConcR.WgAt link.tWg w.heap.size _ (((0 : Nat) : Int) * Go.ConcR.KK) 0
      rw [show (((0 : Nat) : Int) * Go.ConcR.KK) = 0 by simp]
      exact hnew
    · obtain rfl : eb = g := by simpa [Value.ownBlock] using hg
      exact ⟨keb.1, by show eb < w.heap.size + 1; omega, by show eb ≠ w.heap.size; omega, nwb, fun r hr => by simp [c] at hr⟩
  have H₄ : Held Try.prog (c.X False) Vn 0 0 γ (BysS (notesT W us L) c) (fun g w' => g = G (fRun (Ts₃.setIfInBounds 8 (pb w.heap.size)) (.inRegion ops9 [] :: .code cd7 :: [])) (b₀.at a₀ (.inRegion ops (j :: rest) :: kk) :: cs) ∧ SW (notesT W us L) c us.length () (.slice (some ⟨eb, 0, none⟩) 0 0) w' ∧ w'.heap[tb]? = some (.cells #[.slice al us.length tcap] 32 (0, 0))) (crowd gs' ((w.at d).alloc (Go.ConcR.wgBlock link.tWg 0 0)) sl') T' :=
    ⟨gs', _, sl', q', _, B', cn', _, rfl, hsz.trans hgs, hg', ⟨rfl, hSW, (hold tb ltb).trans ktb.2⟩, ⟨fun j hj _ => hgone j (by omega), fun k r hk => by simp [c] at hk⟩, ⟨C₂, C.sys⟩⟩
  refine Lands.bind ⟨N, _, _, hrun, H₄⟩ fun m₄ T₄ H₄ => ?_
  have hrows : ∀ k, ∃ a c, slK us k = .slice a (Sk L k).length c ∧ Nts a (Sk L k) W ∧ (Sk L k).length < 9223372036854775807 := fun k => by
    obtain ⟨a, c, h1, h2⟩ := hP.rows k
    exact ⟨a, c, h1, h2, by have := hLb k; omega⟩
  have O : TasksOk (notesT W us L) c.N₀ Sh := notes_ok hS hrows
  have hput : ∀ k, k ≠ 8 → (Ts₃.setIfInBounds 8 (pb w.heap.size))[k]? = Ts₃[k]? := fun k hk => by simp [Array.getElem?_setIfInBounds, Ne.symm hk]
  refine (H₄.walk (K' := fun g w' => Head1 (.slice ap ps.length pcap) (.slice (some ⟨wb, 0, none⟩) us.length us.length) (.slice al us.length tcap) us.length 0 c.wg c.ev (b₀.at a₀ (.inRegion ops (j :: rest) :: kk) :: cs) g ∧ SW (notesT W us L) c us.length () (.slice (some ⟨eb, 0, none⟩) 0 0) w') bysS_stb fun g w' hK => ⟨20, ?_⟩).bind fun m₅ T₅ H₅ => ?_
  · obtain ⟨rfl, hQ'⟩ := hK
    refine goes_imp (fun _ _ x => x) (fun _ _ _ x => x) (fun g w h => ⟨h.1, h.2.1⟩) (r_begin4 (X := c.X False) (Q := fun w' => SW (notesT W us L) c us.length () (.slice (some ⟨eb, 0, none⟩) 0 0) w' ∧ w'.heap[tb]? = some (.cells #[.slice al us.length tcap] 32 (0, 0))) (fun w w' h r => ⟨h.1.ext S O r, (r.same _ (Array.getElem?_eq_some_iff.1 h.2).1 id).trans h.2⟩) (fun w h => by simp [World.cell?, h.2]) (S.nsh (b := tb) ktb.1 (by show tb ≠ w.heap.size; omega) rfl) _ w' hQ' _ (by simpa using q1) ((hput 0 (by decide)).trans q2) ((hput 3 (by decide)).trans q3) ((hput 6 (by decide)).trans q4) ((hput 7 (by decide)).trans q5) (by simp [q1]; rfl))
  -- the rest
  have hne : ∀ k, ¬ Sh (.cell ⟨ev, k, none⟩) := fun k h => by have := hshl _ h; simp only at this; omega
  obtain ⟨tp, to', ht1, ht2, ht3, ht4⟩ := vrow_at hS hP.tasks (fun u hu => by obtain ⟨x, _, rfl⟩ := List.mem_map.1 hu; rfl) ev hne
  obtain ⟨pp, po, hp1, hp2, hp3, hp4⟩ := vrow_at hS hP.picks (fun u hu => by obtain ⟨x, _, rfl⟩ := List.mem_map.1 hu; rfl) ev hne
  have hsize := hK.1.size
  have nwg : ∀ {b : Nat}, (∀ k, ¬ Sh (.cell ⟨b, k, none⟩)) → (b = ev ∨ b < W.heap.size) → ∀ k, ¬ c.Sh (.cell ⟨b, k, none⟩) := by
    intro b h1 h2 k h
    rcases h with h | ⟨x, e, hx⟩
    · exact h1 k h
    · rw [← Loc.cell.inj e] at hx
      simp only at hx
      rcases h2 with h2 | h2 <;> omega
  have hLsum : ∀ m, m ≤ 64 → sumTo m (fun k => (notesT W us L).rk k ((notesT W us L).l0 k)) ≤ m * 1000000 := by
    intro m
    induction m with
    | zero => intro _; exact Nat.le_refl _
    | succ m ih =>
      intro hm
      have h1 := ih (by omega)
      have h2 := hLb m
      have h3 : (notesT W us L).rk m ((notesT W us L).l0 m) = (Sk L m).length - 0 := rfl
      rw [sumTo, h3]
      omega
  refine (run_loops (t := notesT W us L) (c := c) (Sh0 := Sh) (n := us.length) (m0 := ()) (u := .slice (some ⟨eb, 0, none⟩) 0 0) O (fun a ha => ?_) (by omega) ?_ (tkv := .slice al us.length tcap) (tp := tp) (to' := to') (tcap := tcap) ?_ (fun m w hw k hk => ?_) (nwg ht3 ht4)
    (a := ap) (p := pp) (o := po) (cap := pcap) (ncap := us.length) (ps := ps) ?_ hps (by omega) (fun m w hw j i hj => ?_) (nwg hp3 hp4) rfl S H₅).mono fun m' T' H => ⟨c.Sh, H.mono (fun g w' h => ?_) (fun _ _ h => h)⟩
  · rcases ha with ha | ⟨x, e, hx⟩
    · exact .inl ha
    · rw [Loc.cell.inj e]; exact .inr (by show W.heap.size ≤ x.block; omega)
  · have := hLsum us.length hn
    omega
  · rcases ht1 with h | h
    · exact .inl (by rw [← hlen, h]; rfl)
    · exact .inr (by rw [h])
  · obtain ⟨u, hu⟩ : ∃ u, us[k]? = some u := ⟨_, List.getElem?_eq_getElem hk⟩
    have hi : (ifs us)[k]? = some (.iface 44 u) := by simp [ifs, hu]
    obtain ⟨h1, h2⟩ := ht2 k _ hi
    rw [cell_of_block (hw _ h1), h2]
    simp [notesT, slK, hu]
  · rcases hp1 with h | h
    · exact .inl (by simpa [ints] using h)
    · exact .inr h
  · have hi : (ints ps)[j]? = some (.int .i64 (i : Int)) := by simp [ints, hj]
    obtain ⟨h1, h2⟩ := hp2 j _ hi
    rw [cell_of_block (hw _ h1), h2]
  · obtain ⟨u, rfl, hT, hrow, hsz', hl⟩ := h
    refine ⟨W, u, rfl, hP, hQ, ⟨hsz', hT⟩, fun a ha => ?_, hrow⟩
    rcases ha with ha | ⟨x, e, hx⟩
    · obtain ⟨st, sm, hw⟩ := hS a ha
      refine ⟨st, sm, ?_⟩
      unfold Go.ConcR.WgAt at hw ⊢
      rw [hT _ (Array.getElem?_eq_some_iff.1 hw).1]
      exact hw
    · rw [Loc.cell.inj e, hx]; exact hl
end
end

/-! ### CwAwk2 -/
section
set_option linter.unusedSimpArgs false
open Go Go.Conc Go.RowKit Go.ConcR.Gen Cw

section
variable {Sh : Loc → Prop} {W : World} {mn : Bool} {Q : World → Prop}
set_option maxRecDepth 100000 in
set_option maxHeartbeats 2000000 in
/-- Through tasks, into sched.Run. -/
theorem a_run (hrl : ∀ w w', Q w → Ext Vn w w' → Q w') {pa sl kc : Nat} {Rs' : Value → World → Prop} (hRs : ∀ r w w', Rs' r w → Ext Vn w w' → Rs' r w') (cs : List Frame) (w : World) (hF : Q w) (T : Array Value) (hT : T.size = 22) (h4 : T[4]? = some (.slice (some ⟨pa, 0, none⟩) 2 2)) (h7 : T[7]? = some (.slice (some ⟨sl, 0, none⟩) 2 2))
    (hkc : CallsC Try.prog mn (Ext Vn) (HDq (Cx0 Sh)) 11 #[.slice (some ⟨sl, 0, none⟩) 2 2] kc w (fun r w' => Q w' ∧ Rs' r w')) :
    Goes Try.prog mn (Ext Vn) (HDq (Cx0 Sh)) (fun g w => ∃ r T', T'.size = 22 ∧ g = G (fRun (entryT (.slice (some ⟨pa, 0, none⟩) 2 2) r) [.code bodyM]) (fAw T' (.inRegion ops9a (5 :: [6, 7, 8, 9, 10]) :: .code (rt (rt body9)) :: []) :: cs) ∧ Q w ∧ Rs' r w) (10 + kc + 3)
      (G (fAw T (.inRegion ops9a [4, 5, 6, 7, 8, 9, 10] :: .code (rt (rt body9)) :: [])) cs) w := by
  obtain ⟨v0, v1, v2, v3, v4, v5, v6, v7, v8, v9, v10, v11, v12, v13, v14, v15, v16, v17, v18, v19, v20, v21, rfl⟩ := arr22 T hT
  simp only [List.getElem?_toArray, List.getElem?_cons_zero, List.getElem?_cons_succ, Option.some.injEq] at h4 h7
  subst h4
  subst h7
  simp only [fAw, ops9a, body9, inner, rt, lf, opsOf, Try.f9, Option.getD_some]
  refine Goes.call (hdq_terms (Cx0 Sh) Vn) (f := 11) (args := #[.tmp 7]) (ats := #[23]) rfl rfl (by k_ne) rfl (by simp only [List.map_toArray, List.map_cons, List.map_nil, Act.eval]; exact hkc) (fun r w hv => ?_)
  clear hF hkc
  obtain ⟨hF, hR⟩ := hv
  try walk_nrm
  refine Goes.step rfl (fun w hr => ?_)
  replace hF := hrl _ _ hF hr
  replace hR := hRs _ _ _ hR hr
  clear hr
  refine goes_call rfl rfl (by k_ne) rfl Try.func10 rfl rfl ⟨hdq_idle _ _, ?_⟩
  refine Goes.stop (fun w hr => ⟨r, #[v0, v1, v2, v3, .slice (some ⟨pa, 0, none⟩) 2 2, v5, v6, .slice (some ⟨sl, 0, none⟩) 2 2, r, v9, v10, v11, v12, v13, v14, v15, v16, v17, v18, v19, v20, v21], ?_, ?_, hrl _ _ hF hr, hRs _ _ _ hR hr⟩)
  · rfl
  · simp only [fRun, entryT, bodyM, Try.ntmps10, List.map_toArray, List.map_cons, List.map_nil, Act.eval, List.size_toArray, List.length_cons, List.length_nil, Nat.reduceAdd, Nat.reduceSub, Array.replicate_succ, Array.replicate_zero, List.push_toArray, List.append_toArray, List.nil_append, List.cons_append]
    rfl
theorem bR3 (i j k : Int) (x y z : ByteArray) (w : World) : (Instr.buildSlice 35 3 #[(0, .agg #[.int .i64 i, .string x]), (1, .agg #[.int .i64 j, .string y]), (2, .agg #[.int .i64 k, .string z])]).run Try.prog w = .ok (.slice (some ⟨w.heap.size, 0, none⟩) 3 3) (w.alloc (.cells #[.int .i64 i, .string x, .int .i64 j, .string y, .int .i64 k, .string z] 41)) := by
  obtain ⟨it, hit, h1, h2, _⟩ := reInfo
  refine run_buildSlice w _ _ 3 _ _ it _ (by kernel_rfl) hit h1 (by rw [h2]; omega) (by rw [h2]; omega) ?_
  rw [h2]
  kernel_rfl
theorem bR3E (i j k : Int) (x y z : ByteArray) (w : World) (es : Array Event) : (Instr.buildSlice 35 3 #[(0, .agg #[.int .i64 i, .string x]), (1, .agg #[.int .i64 j, .string y]), (2, .agg #[.int .i64 k, .string z])]).events Try.prog w es = es := by
  obtain ⟨it, hit, h1, h2, _⟩ := reInfo
  simp [Instr.buildSlice, go_sem, sizeOf, typeInfo, zeroValue, hit, h1, h2]
set_option maxRecDepth 100000 in
set_option maxHeartbeats 2000000 in
/-- Behind sched.Run, to the call of same. -/
theorem a_same {u : Value} (cs : List Frame) (w : World) (hF : Kn W [] w) (T : Array Value) (hT : T.size = 22) :
    Goes Try.prog mn (Ext Vn) (HDq (Cx0 Sh)) (fun g w => ∃ sb T, (T.size = 22 ∧ T[14]? = some (.bool true) ∧ T[15]? = some u ∧ T[19]? = some (.slice (some ⟨sb, 0, none⟩) 3 3)) ∧ g = G (fAw T (.inRegion ops9b [8, 9, 10] :: .code .ret :: [])) cs ∧ Kn W [(sb, Obj.cells #[.int .i64 1, .string strC, .int .i64 0, .string strA, .int .i64 0, .string strB] 41 (0, 0))] w) 30
      (G ((base 9).at (Act.put ⟨T, []⟩ ((ops9a[5]?).bind (·.dst)) (.tuple #[u, .int .i64 0])) (.inRegion ops9a [6, 7, 8, 9, 10] :: .code (rt (rt body9)) :: [])) cs) w := by
  obtain ⟨v0, v1, v2, v3, v4, v5, v6, v7, v8, v9, v10, v11, v12, v13, v14, v15, v16, v17, v18, v19, v20, v21, rfl⟩ := arr22 T hT
  simp only [fAw, ops9a, ops9b, body9, inner, rt, lf, opsOf, Try.f9, Option.getD_some]
  walk_nrm
  refine Goes.step rfl (fun w hr => ?_)
  replace hF := (fun h r => Kn.rl h r) hF hr
  clear hr
  refine goes_oper_k rfl rfl (by k_ne) (fun K hK => ?_)
  go_simp
  refine hK _ _ ⟨?_, ?_⟩
  · rw [listed_nil (by simp [go_sem])]; exact hdq_idle _ _
  clear hK K
  try walk_nrm
  refine Goes.step rfl (fun w hr => ?_)
  replace hF := (fun h r => Kn.rl h r) hF hr
  clear hr
  refine goes_oper_k rfl rfl (by k_ne) (fun K hK => ?_)
  go_simp
  refine hK _ _ ⟨?_, ?_⟩
  · rw [listed_nil (by simp [go_sem])]; exact hdq_idle _ _
  clear hK K
  try walk_nrm
  refine Goes.step rfl (fun w hr => ?_)
  replace hF := (fun h r => Kn.rl h r) hF hr
  clear hr
  refine goes_oper_k rfl rfl (by k_ne) (fun K hK => ?_)
  go_simp
  refine hK _ _ ⟨?_, ?_⟩
  · rw [listed_nil (by simp [go_sem])]; exact hdq_idle _ _
  clear hK K
  try walk_nrm
  refine Goes.step rfl (fun w hr => ?_)
  replace hF := (fun h r => Kn.rl h r) hF hr
  clear hr
  refine goes_oper_k rfl rfl (by k_ne) (fun K hK => ?_)
  go_simp
  refine hK _ _ ⟨?_, ?_⟩
  · rw [listed_nil (by simp [go_sem])]; exact hdq_idle _ _
  clear hK K
  try walk_nrm
  refine Goes.step rfl (fun w hr => ?_)
  replace hF := (fun h r => Kn.rl h r) hF hr
  clear hr
  refine goes_oper_k rfl rfl (by k_ne) (fun K hK => ?_)
  go_simp
  refine hK _ _ ⟨?_, ?_⟩
  · rw [listed_nil (by simp [go_sem])]; exact hdq_idle _ _
  clear hK K
  try walk_nrm
  refine Goes.step rfl (fun w hr => ?_)
  replace hF := (fun h r => Kn.rl h r) hF hr
  clear hr
  rw [stepG_region_end]
  simp only [goes_go]
  refine ⟨hdq_idle _ _, ?_⟩
  refine Goes.step rfl (fun w hr => ?_)
  replace hF := (fun h r => Kn.rl h r) hF hr
  clear hr
  rw [stepG_seq]
  simp only [goes_go]
  refine ⟨hdq_idle _ _, ?_⟩
  refine Goes.step rfl (fun w hr => ?_)
  replace hF := (fun h r => Kn.rl h r) hF hr
  clear hr
  rw [stepG_region]
  simp only [goes_go, List.size_toArray, List.length_cons, List.length_nil, Nat.reduceAdd, Nat.zero_add, List.range, List.range.loop]
  refine ⟨hdq_idle _ _, ?_⟩
  refine Goes.step rfl (fun w hr => ?_)
  replace hF := (fun h r => Kn.rl h r) hF hr
  clear hr
  refine goes_oper_k rfl rfl (by k_ne) (fun K hK => ?_)
  go_simp
  refine hK _ _ ⟨?_, ?_⟩
  · rw [listed_nil (by simp [go_sem])]; exact hdq_idle _ _
  clear hK K
  try walk_nrm
  refine Goes.step rfl (fun w hr => ?_)
  replace hF := (fun h r => Kn.rl h r) hF hr
  clear hr
  refine goes_oper_k rfl rfl (by k_ne) (fun K hK => ?_)
  go_simp
  refine hK _ _ ⟨?_, ?_⟩
  · rw [listed_nil (by simp [go_sem, *])]; exact hdq_idle _ _
  clear hK K
  try walk_nrm
  refine Goes.step rfl (fun w hr => ?_)
  replace hF := (fun h r => Kn.rl h r) hF hr
  clear hr
  refine goes_oper_k rfl rfl (by k_ne) (fun K hK => ?_)
  go_simp
  refine hK _ _ ⟨?_, ?_⟩
  · rw [listed_nil (by simp [go_sem])]; exact hdq_idle _ _
  clear hK K
  try walk_nrm
  refine Goes.step rfl (fun w hr => ?_)
  replace hF := (fun h r => Kn.rl h r) hF hr
  clear hr
  refine goes_oper_k rfl rfl (by k_ne) (fun K hK => ?_)
  go_simp
  refine hK _ _ ⟨?_, ?_⟩
  · rw [listed_nil (by simp [go_sem])]; exact hdq_idle _ _
  clear hK K
  try walk_nrm
  refine Goes.step rfl (fun w hr => ?_)
  replace hF := (fun h r => Kn.rl h r) hF hr
  clear hr
  have hm := bldR 1 strC
  have hm' := bldRE 1 strC
  refine goes_oper_k rfl rfl (by k_ne) (fun K hK => ?_)
  go_simp
  refine hK _ _ ⟨?_, ?_⟩
  · rw [listed_nil (by simp [go_sem, *])]; exact hdq_idle _ _
  clear hK K hm hm'
  try walk_nrm
  refine Goes.step rfl (fun w hr => ?_)
  replace hF := (fun h r => Kn.rl h r) hF hr
  clear hr
  have hm := bldR 0 strA
  have hm' := bldRE 0 strA
  refine goes_oper_k rfl rfl (by k_ne) (fun K hK => ?_)
  go_simp
  refine hK _ _ ⟨?_, ?_⟩
  · rw [listed_nil (by simp [go_sem, *])]; exact hdq_idle _ _
  clear hK K hm hm'
  try walk_nrm
  refine Goes.step rfl (fun w hr => ?_)
  replace hF := (fun h r => Kn.rl h r) hF hr
  clear hr
  have hm := bldR 0 strB
  have hm' := bldRE 0 strB
  refine goes_oper_k rfl rfl (by k_ne) (fun K hK => ?_)
  go_simp
  refine hK _ _ ⟨?_, ?_⟩
  · rw [listed_nil (by simp [go_sem, *])]; exact hdq_idle _ _
  clear hK K hm hm'
  try walk_nrm
  refine Goes.step rfl (fun w hr => ?_)
  replace hF := (fun h r => Kn.rl h r) hF hr
  clear hr
  have hm := bR3 1 0 0 strC strA strB
  have hm' := bR3E 1 0 0 strC strA strB
  refine goes_oper_k rfl rfl (by k_ne) (fun K hK => ?_)
  go_simp
  refine hK _ _ ⟨?_, ?_⟩
  · rw [listed_nil (by simp [go_sem, *])]
    exact al_hd (by simp)
  clear hK K
  try walk_nrm
  clear hm hm'
  replace hF := hF.alloc (Obj.cells #[.int .i64 1, .string strC, .int .i64 0, .string strA, .int .i64 0, .string strB] 41 (0, 0))
  generalize w.heap.size = sb at *
  generalize w.alloc (Obj.cells #[.int .i64 1, .string strC, .int .i64 0, .string strA, .int .i64 0, .string strB] 41 (0, 0)) = w at *
  refine Goes.stop (fun w hr => ⟨sb, _, ⟨?_, ?_, ?_, ?_⟩, rfl, hF.rl hr⟩) <;> rfl
set_option maxRecDepth 100000 in
set_option maxHeartbeats 2000000 in
/-- Through same, and out. -/
theorem a_out {w : World} (hrl : ∀ w w', Q w → Ext Vn w w' → Q w') {sb n c kc : Nat} {a : Option Addr} (hF : Q w) {b₀ : Frame} {a₀ : Act} {ops : Array Oper} {j : Nat} {rest : List Nat} {kk : List Item} (cs : List Frame) (T : Array Value) (hT : T.size = 22) (h14 : T[14]? = some (.bool true)) (h15 : T[15]? = some (.slice a n c)) (h19 : T[19]? = some (.slice (some ⟨sb, 0, none⟩) 3 3))
    (hkc : CallsC Try.prog mn (Ext Vn) (HDq (Cx0 Sh)) 12 #[.slice a n c, .slice (some ⟨sb, 0, none⟩) 3 3] kc w (fun r w' => r = .bool true ∧ Q w')) :
    Goes Try.prog mn (Ext Vn) (HDq (Cx0 Sh)) (fun g w => g = G (b₀.at (a₀.put ((ops[j]?).bind (·.dst)) (.bool true)) (.inRegion ops rest :: kk)) cs ∧ Q w) (20 + kc + 3)
      (G (fAw T (.inRegion ops9b [8, 9, 10] :: .code .ret :: [])) (b₀.at a₀ (.inRegion ops (j :: rest) :: kk) :: cs)) w := by
  obtain ⟨v0, v1, v2, v3, v4, v5, v6, v7, v8, v9, v10, v11, v12, v13, v14, v15, v16, v17, v18, v19, v20, v21, rfl⟩ := arr22 T hT
  simp only [List.getElem?_toArray, List.getElem?_cons_zero, List.getElem?_cons_succ, Option.some.injEq] at h14 h15 h19
  subst h14
  subst h15
  subst h19
  simp only [fAw, ops9b, body9, inner, rt, lf, opsOf, Try.f9, Option.getD_some]
  refine Goes.call (hdq_terms (Cx0 Sh) Vn) (f := 12) (args := #[.tmp 15, .tmp 19]) (ats := #[28, 35]) rfl rfl (by k_ne) rfl (by simp only [List.map_toArray, List.map_cons, List.map_nil, Act.eval]; exact hkc) (fun r w hv => ?_)
  clear hF hkc
  obtain ⟨rfl, hF⟩ := hv
  try walk_nrm
  refine Goes.step rfl (fun w hr => ?_)
  replace hF := (hrl _ _) hF hr
  clear hr
  refine goes_oper_k rfl rfl (by k_ne) (fun K hK => ?_)
  go_simp
  refine hK _ _ ⟨?_, ?_⟩
  · rw [listed_nil (by simp [go_sem])]; exact hdq_idle _ _
  clear hK K
  try walk_nrm
  refine Goes.step rfl (fun w hr => ?_)
  replace hF := (hrl _ _) hF hr
  clear hr
  refine goes_oper_k rfl rfl (by k_ne) (fun K hK => ?_)
  go_simp
  refine hK _ _ ⟨?_, ?_⟩
  · rw [listed_nil (by simp [go_sem])]; exact hdq_idle _ _
  clear hK K
  try walk_nrm
  refine Goes.step rfl (fun w hr => ?_)
  replace hF := (hrl _ _) hF hr
  clear hr
  rw [stepG_region_end]
  simp only [goes_go]
  refine ⟨hdq_idle _ _, ?_⟩
  refine Goes.step rfl (fun w hr => ?_)
  replace hF := (hrl _ _) hF hr
  clear hr
  rw [stepG_ret']
  simp only [goes_go]
  refine ⟨hdq_idle _ _, ?_⟩
  refine Goes.step rfl (fun w hr => ?_)
  replace hF := (hrl _ _) hF hr
  clear hr
  refine goes_leave1 rfl rfl Try.func9 rfl ⟨hdq_idle _ _, ?_⟩
  exact Goes.stop fun w hr => ⟨rfl, hrl _ _ hF hr⟩
end
end

/-! ### CwPl -/
section
set_option linter.unusedSimpArgs false
open Go Go.Conc Go.RowKit Go.ConcR.Gen Cw
open Go.ConcN (sumTo upd upd_same upd_ne)

section
variable {W : World} {us : List Value} {L : List (List ByteArray)} {n : Nat}
/-- How many notes a task has said. -/
def locN (s : Sst (notesT W us L)) (k : Nat) : Nat := s.loc k
/-- How the two states agree about the tasks from number i on. -/
structure RelF (L : List (List ByteArray)) (n i : Nat) (s : Sst (notesT W us L)) (A : List Nat) (E : List (Int × ByteArray)) : Prop where
  ev : s.E = E
  len : A.length = n
  go : ∀ k, i ≤ k → k < n → s.en k = false → A[k]? = some (locN s k) ∧ locN s k ≤ (Sk L k).length
  done : ∀ k, i ≤ k → k < n → s.en k = true → ∃ x, A[k]? = some x ∧ (Sk L k).length < x
theorem step_some {s : Sst (notesT W us L)} {k : Nat} {x : ByteArray} (he : s.en k = false) (hx : (Sk L k)[locN s k]? = some x) : (notesT W us L).step k s = ⟨s.en, upd s.loc k (locN s k + 1 : Nat), s.m, s.E ++ [((k : Int), x)]⟩ := by
  have hn : (notesT W us L).next k (s.loc k) s.m = (s.m, some (x, (locN s k + 1 : Nat))) := by
    change (match (Sk L k)[locN s k]? with | some s' => (s.m, some (s', locN s k + 1)) | none => (s.m, none)) = _
    rw [hx]
  unfold Tasks.step
  rw [he, hn]
  rfl
theorem step_none {s : Sst (notesT W us L)} {k : Nat} (he : s.en k = false) (hx : (Sk L k)[locN s k]? = none) : (notesT W us L).step k s = ⟨upd s.en k true, s.loc, s.m, s.E⟩ := by
  have hn : (notesT W us L).next k (s.loc k) s.m = (s.m, none) := by
    change (match (Sk L k)[locN s k]? with | some s' => (s.m, some (s', locN s k + 1)) | none => (s.m, none)) = _
    rw [hx]
    rfl
  unfold Tasks.step
  rw [he, hn]
  rfl
theorem locN_upd_same (en : Nat → Bool) (l : Nat → Nat) (k x : Nat) (m : Unit) (E : List (Int × ByteArray)) : locN (⟨en, upd l k x, m, E⟩ : Sst (notesT W us L)) k = x := upd_same l k x
theorem locN_upd_ne (en : Nat → Bool) (l : Nat → Nat) {k j : Nat} (x : Nat) (m : Unit) (E : List (Int × ByteArray)) (h : j ≠ k) : locN (⟨en, upd l k x, m, E⟩ : Sst (notesT W us L)) j = l j := upd_ne l x h
theorem refStep_some' {A : List Nat} {E : List (Int × ByteArray)} {tt x : Nat} {sx : ByteArray} (hA : A[tt]? = some x) (hs : (Sk L tt)[x]? = some sx) : refStep L (A, E) tt = (A.set tt (x + 1), E ++ [((tt : Int), sx)]) := by
  simp [refStep, List.getD_eq_getElem?_getD, hA, hs]
theorem refStep_none' {A : List Nat} {E : List (Int × ByteArray)} {tt x : Nat} (hA : A[tt]? = some x) (hs : (Sk L tt).length ≤ x) : refStep L (A, E) tt = (A.set tt (x + 1), E) := by
  simp [refStep, List.getD_eq_getElem?_getD, hA, List.getElem?_eq_none hs]
theorem rel_step {i k : Nat} {s : Sst (notesT W us L)} {A : List Nat} {E : List (Int × ByteArray)} (h : RelF L n i s A E) (hik : i ≤ k) (hk : k < n) : RelF L n i ((notesT W us L).step k s) (refStep L (A, E) k).1 (refStep L (A, E) k).2 := by
  have hkA : k < A.length := by rw [h.len]; exact hk
  cases he : s.en k with
  | true =>
    obtain ⟨x, hx, hlt⟩ := h.done k hik hk he
    rw [step_id he, refStep_none' hx (by omega)]
    refine ⟨h.ev, by simpa using h.len, fun j hj hjn hej => ?_, fun j hj hjn hej => ?_⟩
    · have hne : j ≠ k := fun e => by rw [e, he] at hej; cases hej
      rw [List.getElem?_set_ne (Ne.symm hne)]
      exact h.go j hj hjn hej
    · by_cases hne : j = k
      · subst hne
        exact ⟨x + 1, by simp [hkA], by omega⟩
      · rw [List.getElem?_set_ne (Ne.symm hne)]
        exact h.done j hj hjn hej
  | false =>
    obtain ⟨hA, hle⟩ := h.go k hik hk he
    cases hx : (Sk L k)[locN s k]? with
    | some sx =>
      have hlt := (List.getElem?_eq_some_iff.1 hx).1
      rw [step_some he hx, refStep_some' hA hx]
      refine ⟨by simp only [h.ev], by simpa using h.len, fun j hj hjn hej => ?_, fun j hj hjn hej => ?_⟩
      · by_cases hne : j = k
        · subst hne
          rw [show locN (⟨s.en, upd s.loc j (locN s j + 1 : Nat), s.m, s.E ++ [((j : Int), sx)]⟩ : Sst (notesT W us L)) j = locN s j + 1 from upd_same _ _ _]
          exact ⟨by simp [hkA], hlt⟩
        · rw [List.getElem?_set_ne (Ne.symm hne), show locN (⟨s.en, upd s.loc k (locN s k + 1 : Nat), s.m, s.E ++ [((k : Int), sx)]⟩ : Sst (notesT W us L)) j = locN s j from upd_ne _ _ hne]
          exact h.go j hj hjn hej
      · have hne : j ≠ k := fun e => by subst e; rw [he] at hej; cases hej
        rw [List.getElem?_set_ne (Ne.symm hne)]
        exact h.done j hj hjn hej
    | none =>
      have hge := List.getElem?_eq_none_iff.1 hx
      rw [step_none he hx, refStep_none' hA hge]
      refine ⟨h.ev, by simpa using h.len, fun j hj hjn hej => ?_, fun j hj hjn hej => ?_⟩
      · have hne : j ≠ k := fun e => by subst e; simp only [upd_same] at hej; cases hej
        simp only [upd_ne _ _ hne] at hej
        rw [List.getElem?_set_ne (Ne.symm hne)]
        exact h.go j hj hjn hej
      · by_cases hne : j = k
        · subst hne
          exact ⟨locN s j + 1, by simp [hkA], by omega⟩
        · simp only [upd_ne _ _ hne] at hej
          rw [List.getElem?_set_ne (Ne.symm hne)]
          exact h.done j hj hjn hej
theorem RelF.up {i : Nat} {s : Sst (notesT W us L)} {A : List Nat} {E : List (Int × ByteArray)} (h : RelF L n i s A E) : RelF L n (i + 1) s A E := ⟨h.ev, h.len, fun k hk => h.go k (by omega), fun k hk => h.done k (by omega)⟩
theorem rel_picks : ∀ (ps : List Nat) (s : Sst (notesT W us L)) (A : List Nat) (E : List (Int × ByteArray)), (∀ k ∈ ps, k < n) → RelF L n 0 s A E → RelF L n 0 (ps.foldl (fun s k => (notesT W us L).step k s) s) (ps.foldl (refStep L) (A, E)).1 (ps.foldl (refStep L) (A, E)).2
  | [], _, _, _, _, h => h
  | k :: ps, s, A, E, hk, h => by
    have h1 := rel_step h (Nat.zero_le k) (hk k (by simp))
    exact rel_picks ps _ _ _ (fun j hj => hk j (by simp [hj])) h1
theorem rel_run {k : Nat} (hk : k < n) : ∀ (d : Nat) (s : Sst (notesT W us L)) (A : List Nat) (E : List (Int × ByteArray)), s.en k = false → (Sk L k).length - locN s k = d → RelF L n k s A E →
    RelF L n (k + 1) (itr ((notesT W us L).step k) (d + 1) s) (itr (fun s => refStep L s k) d (A, E)).1 (itr (fun s => refStep L s k) d (A, E)).2
  | 0, s, A, E, he, hd, h => by
    obtain ⟨hA, hle⟩ := h.go k (Nat.le_refl k) hk he
    have hx : (Sk L k)[locN s k]? = none := List.getElem?_eq_none (by omega)
    rw [itr, itr, itr, step_none he hx]
    refine ⟨h.ev, h.len, fun j hj hjn hej => ?_, fun j hj hjn hej => ?_⟩
    · have hne : j ≠ k := by omega
      simp only [upd_ne _ _ hne] at hej
      exact h.go j (by omega) hjn hej
    · have hne : j ≠ k := by omega
      simp only [upd_ne _ _ hne] at hej
      exact h.done j (by omega) hjn hej
  | d + 1, s, A, E, he, hd, h => by
    have hlt : locN s k < (Sk L k).length := by omega
    obtain ⟨sx, hx⟩ : ∃ sx, (Sk L k)[locN s k]? = some sx := ⟨_, List.getElem?_eq_getElem hlt⟩
    have h1 := rel_step h (Nat.le_refl k) hk
    rw [itr, show itr (fun s => refStep L s k) (d + 1) (A, E) = itr (fun s => refStep L s k) d (refStep L (A, E) k) from rfl]
    have h2 := step_some he hx
    refine rel_run hk d _ _ _ ?_ ?_ h1
    · rw [h2]; exact he
    · rw [h2, show locN (⟨s.en, upd s.loc k (locN s k + 1 : Nat), s.m, s.E ++ [((k : Int), sx)]⟩ : Sst (notesT W us L)) k = locN s k + 1 from upd_same _ _ _]
      omega
theorem rel_drain {k : Nat} (hk : k < n) {s : Sst (notesT W us L)} {A : List Nat} {E : List (Int × ByteArray)} (h : RelF L n k s A E) : RelF L n (k + 1) ((notesT W us L).drain k s) (refDrain L (A, E) k).1 (refDrain L (A, E) k).2 := by
  unfold Tasks.drain refDrain
  cases he : s.en k with
  | true =>
    obtain ⟨x, hx, hlt⟩ := h.done k (Nat.le_refl k) hk he
    rw [itr_id (step_id he), show (Sk L k).length - (A, E).1.getD k 0 = 0 by simp [List.getD_eq_getElem?_getD, hx]; omega]
    exact h.up
  | false =>
    obtain ⟨hA, hle⟩ := h.go k (Nat.le_refl k) hk he
    rw [show (A, E).1.getD k 0 = locN s k by simp [List.getD_eq_getElem?_getD, hA]]
    exact rel_run hk _ s A E he rfl h
theorem rel_drains : ∀ (d k : Nat), k + d = n → ∀ (s : Sst (notesT W us L)) (A : List Nat) (E : List (Int × ByteArray)), RelF L n k s A E →
    ((notesT W us L).drains (List.range' k d) s).E = ((List.range' k d).foldl (refDrain L) (A, E)).2
  | 0, _, _, s, A, E, h => h.ev
  | d + 1, k, hd, s, A, E, h => by
    rw [List.range'_succ, List.foldl_cons]
    exact rel_drains d (k + 1) (by omega) _ _ _ (rel_drain (by omega) h)
/-- THE EVENTS ARE THE DOCUMENT's. -/
theorem fin_ref {ps : List Nat} (hl : L.length = n) (hp : ∀ k ∈ ps, k < n) : ((notesT W us L).fin () n ps).E = refRun L ps := by
  have h0 : RelF L n 0 ((notesT W us L).s0 ()) (List.replicate n 0) [] := by
    refine ⟨rfl, by simp, fun k _ hk _ => ?_, fun k _ _ h => by cases h⟩
    exact ⟨by show (List.replicate n 0)[k]? = some 0; simp [hk], Nat.zero_le _⟩
  have h1 := rel_picks ps _ _ _ hp h0
  have h2 := rel_drains n 0 (by omega) _ _ _ h1
  unfold Tasks.fin refRun
  rw [h2, hl, ← List.range_eq_range']
end
end
end Go.Proofs.Ytggfcdhkgldbfaa
