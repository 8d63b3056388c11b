/-
  PARTS of a claim, merged by segs.py: NwNe11.
-/
import Derived.Test.YtggfcdhkgldbfaaN43
namespace Go.Proofs.Ytggfcdhkgldbfaa
set_option linter.unusedSimpArgs false
set_option linter.unusedVariables false

/-! ### NwNe11 -/
section
set_option linter.unusedSimpArgs false
open Go Go.Conc Go.RowKit Go.ConcR.Gen Cw
abbrev strX0 : ByteArray := ⟨#[120]⟩
abbrev strY0 : ByteArray := ⟨#[121]⟩
/-- What is told of the nested task's record, in the world of the outer call. -/
structure NestIn (W : World) (ap al : Option Addr) (qs : List Nat) (ui : List Value) (Li : List (List ByteArray)) (S0 : List ByteArray) : Prop where
  picks : VRow W ap (ints qs)
  rows : VRow W al ui
  sl : ∀ u ∈ ui, IsSl u
  nts : ∀ k, ∃ a c, slK ui k = .slice a (Sk Li k).length c ∧ Nts a (Sk Li k) W
  few : ∀ k, (Sk Li k).length ≤ 1000000
  n : ui.length ≤ 64
  np : qs.length ≤ 4096
  lt : ∀ i ∈ qs, i < ui.length
  len : Li.length = ui.length
  list : (refRun Li qs).map (·.2) = S0
  n63 : S0.length < 9223372036854775807
abbrev nvN (ap al : Option Addr) (np pcap nl lcap : Nat) : Value := .agg #[.slice ap np pcap, .slice al nl lcap]
section
variable {W : World} {us : List Value} {L : List (List ByteArray)} {ap al : Option Addr} {qs : List Nat} {ui : List Value} {Li : List (List ByteArray)} {pcap lcap : Nat}
set_option maxHeartbeats 4000000 in
theorem nest_turn_first [Ref] {c : Rc} (S : Rs c) (O : TasksOk (nestT W us L (nvN ap al qs.length pcap ui.length lcap)) c.N₀ c.FV) (I : NestIn W ap al qs ui Li (Sk L 0)) (hN : c.N₀ = W.heap.size) (hFV : c.FV = Vn) (hfwg : ∀ i, i < c.γ → c.Fwg i ≤ W.heap.size) (hlow : ∀ a, c.Sh (.cell a) → a.block < c.N₀ → ∃ st sm, Go.ConcR.WgAt link.tWg a.block W st sm)
    {s : Sst (nestT W us L (nvN ap al qs.length pcap ui.length lcap))} {r : Wk} {cs0 : List Frame} {m : Machine} {T : Trace} (hk : c.ks[0]? = some r) (hE : (s.E.length + 1) * 1024 ≤ 140737488355328) (hj : s.loc 0 = (0 : Nat)) (H : TurnS (nestT W us L (nvN ap al qs.length pcap ui.length lcap)) c s 0 r cs0 m T) :
    Lands Try.prog m T (fun m' T' => ∃ e', Grow c.toRb c.toRe e' ∧ Rs (c.wi e') ∧ TurnedS (nestT W us L (nvN ap al qs.length pcap ui.length lcap)) (c.wi e') s 0 r cs0 m' T') := by
  have one := S.one
  have gn := S.gn
  have h10 := S.b10
  have swg := S.wg
  have hlen0 : 0 < c.ks.length := (List.getElem?_eq_some_iff.1 hk).1
  have hf : (c.γ + 0 == 0) = false := by simp; omega
  have hT : ∀ a b d, Ext c.V a b → Ext c.V b d → Ext c.V a d := fun _ _ _ h r => h.trans r
  have hnfv : ∀ b, ¬ c.FV b := fun b hb => by rw [hFV] at hb; exact hb
  -- to the box of the record
  refine (Held.walk (K' := fun g w => ∃ b1 b2 ex nb T xv, (T.size = 28 ∧ T[1]? = some (yldF b1 b2) ∧ T[2]? = some (pb nb)) ∧ c.B₀ ≤ nb ∧ g = G (fNe T [.code (rt bodyE)]) [frR c.ev r.bi r.bs r.cr b1 b2 ((nestT W us L (nvN ap al qs.length pcap ui.length lcap)).tv 0) xv, fr3 c.wg r.bw r.bt c.ev r.bi r.bs ((nestT W us L (nvN ap al qs.length pcap ui.length lcap)).tv 0), bot] ∧
      (∀ a v, LeanX r c.ev b1 b2 ((nestT W us L (nvN ap al qs.length pcap ui.length lcap)).tv 0) (0 : Nat) ex a v → ¬ c.Sh (.cell a) ∧ a.block ≠ c.ev) ∧ (WB (c.X True) c.B₀ (LeanX r c.ev b1 b2 ((nestT W us L (nvN ap al qs.length pcap ui.length lcap)).tv 0) (0 : Nat) ex) (fun w => WrW (nestT W us L (nvN ap al qs.length pcap ui.length lcap)) c s.en (LeanX r c.ev b1 b2 ((nestT W us L (nvN ap al qs.length pcap ui.length lcap)).tv 0) (0 : Nat) ex) w ∧ (nestT W us L (nvN ap al qs.length pcap ui.length lcap)).Tm s.m w) w ∧ ∃ u, Evs (c.X True) c.V c.ev s.E u w) ∧
      w.heap[nb]? = some (Obj.cells #[.slice ap qs.length pcap, .slice al ui.length lcap] 43 (0, 0))) H (ws_stb S) fun g w hK => ?_).bind fun m₁ T₁ H₁ => ?_
  · obtain ⟨g₂, b1, b2, ex, rfl, hAt, hL, hW, u, hu⟩ := hK
    have fx := fx_of (en := s.en) S O hL s.m
    rcases at0inv hAt with ⟨_, rfl⟩ | ⟨j'', s', eb, c', T', xv, Ei, hj2, _⟩
    · refine ⟨10 + 5, ?_⟩
      rw [hf]
      refine e_begin0 hT c.wg r.bw r.bt c.ev r.bi r.bs r.cr b1 b2 _ (.agg #[]) w ?_
      refine goes_imp (fun _ _ x => x) (fun _ _ _ x => x) (fun g w h => ?_) (e_entry (Q := fun w => ∃ u, Evs (c.X True) c.V c.ev s.E u w) fx (fun w w' r h => h.imp fun u hu => evs_rl fx w w' r hu) (fun w o h => h.imp fun u hu => hu.alloc o) _ w ⟨hW, u, hu⟩)
      obtain ⟨nb, T, h1, h2, rfl, h3, h4⟩ := h
      exact ⟨b1, b2, ex, nb, T, _, h1, h2, rfl, hL, h3, h4⟩
    · rw [hj] at hj2; cases hj2
  obtain ⟨gs, W1, sl, q, Rd, B, cn, g, rfl, hgs, hg, ⟨b1, b2, ex, nb, Ts, xv, ⟨t0, t1, t2⟩, hnb, rfl, hL, hF, hbox⟩, hB, C⟩ := H₁
  have fx := fx_of (en := s.en) S O hL s.m
  have hq : ∀ w w', Ext c.V w w' → (∃ u, Evs (c.X True) c.V c.ev s.E u w) → ∃ u, Evs (c.X True) c.V c.ev s.E u w' := fun w w' r h => h.imp fun u hu => evs_rl fx w w' r hu
  have hT1 : ∀ b, b < W.heap.size → W1.heap[b]? = W.heap[b]? := fun b hb => hF.1.task.2 b hb id
  have hB1 := hF.1.size
  have hwg : ∃ st sm, Go.ConcR.WgAt link.tWg c.wg W1 st sm := (C.mdok c.wg (.inr ⟨trivial, rfl⟩)).wg
  have hWd : Wd (c.X True) c.V W1 := wd_turn S hF.1.task.1.1 hwg (fun a ha hl => by
    obtain ⟨st, sm, hw⟩ := hlow a ha hl
    exact ⟨st, sm, (hT1 _ (by omega)).trans hw⟩) (fun b hb => absurd hb (hnfv b))
  have kp1 : Keep W W1 := ⟨by have := S.lt; omega, hT1⟩
  obtain ⟨kc, hkc⟩ := c_tasks (main := false) hWd lcap (vrow_kp kp1 I.rows) (by have := I.n; omega) I.sl
  have H₁ : Held Try.prog (c.X True) c.V (c.γ + 0) 0 c.n (fun B cn => Bys (nestT W us L (nvN ap al qs.length pcap ui.length lcap)) c s (some 0) B cn ∧ B c.h = .seat r.cp (.bool false) (homeM r cs0) ∧ cn (c.γ + 0) = 1) (fun g w => g = G (fNe Ts [.code (rt bodyE)]) [frR c.ev r.bi r.bs r.cr b1 b2 ((nestT W us L (nvN ap al qs.length pcap ui.length lcap)).tv 0) xv, fr3 c.wg r.bw r.bt c.ev r.bi r.bs ((nestT W us L (nvN ap al qs.length pcap ui.length lcap)).tv 0), bot] ∧ Ext c.V W1 w) (crowd gs W1 sl) T₁ := ⟨gs, W1, sl, q, Rd, B, cn, _, rfl, hgs, hg, ⟨rfl, Ext.refl _ _⟩, hB, C⟩
  clear hg hB C hgs
  refine (H₁.walk (ws_stb S) (K' := fun g w => ∃ T r' tl, tlE tl ∧ (T.size = 28 ∧ T[1]? = some (yldF b1 b2)) ∧ g = G (fRun (entryT (.slice ap qs.length pcap) r') [.code bodyM]) (fNe T (.inRegion opsE1 (5 :: 6 :: tl) :: [.code (rt (rt bodyE))]) :: [frR c.ev r.bi r.bs r.cr b1 b2 ((nestT W us L (nvN ap al qs.length pcap ui.length lcap)).tv 0) xv, fr3 c.wg r.bw r.bt c.ev r.bi r.bs ((nestT W us L (nvN ap al qs.length pcap ui.length lcap)).tv 0), bot]) ∧ Ext c.V W1 w ∧ w.ownsRow W1.heap.size 50 1 r' (ifs ui).length (ifs ui)) fun g w hK => ⟨5 + 5 * (kc + 3) + 5, ?_⟩).bind fun m₂ T₂ H₂ => ?_
  · obtain ⟨rfl, hx⟩ := hK
    rw [hf]
    exact e_run hWd hbox rfl rfl hkc _ Ts t0 t1 t2 w hx
  clear H₁
  obtain ⟨gs, W2, sl, q, Rd, B, cn, g, rfl, hgs, hg, ⟨Ts2, rv, tl, htl, ⟨s0, s1⟩, rfl, hx, hown⟩, ⟨hBy, hBh, hcn⟩, C⟩ := H₂
  obtain ⟨al2, tcap, rfl, hvr, _⟩ := own_vrow hown
  have hF2 := wb_rl fx hq hF hx
  have hB2 := hF2.1.size
  have hT2 : ∀ b, b < W.heap.size → W2.heap[b]? = W.heap[b]? := fun b hb => hF2.1.task.2 b hb id
  have kp2 : Keep W W2 := ⟨by have := S.lt; omega, hT2⟩
  have hvg : VG c.V W2 := fun b hb => hb.elim (fun e => by rw [e]; exact (C.mdok c.wg (.inr ⟨trivial, rfl⟩)).wg) fun h => absurd h (hnfv b)
  have hWd2 := hWd.at_ hx hvg
  have hifl : (ifs ui).length = ui.length := by simp [ifs]
  have hlen := I.len
  have hfin := fin_ref (W := W2) (FV := c.V) (us := ui) (L := Li) (n := (ifs ui).length) (ps := qs) (by omega) (fun k hk => by rw [hifl]; exact I.lt k hk)
  have hCo : CoOk (c.X True) c.V (c.γ + 0) c.n (BpN (nestT W us L (nvN ap al qs.length pcap ui.length lcap)) c s r cs0) := ⟨rfl, rfl, fun b hb => hb.elim (fun e => .inr ⟨trivial, e⟩) fun h => absurd h (hnfv b), by omega, bpn_ok S hlen0⟩
  have hBp : BpN (nestT W us L (nvN ap al qs.length pcap ui.length lcap)) c s r cs0 B cn := ⟨hBy.1, fun j h1 _ => hBy.2.1 j h1, fun k x hkx h0 => hBy.2.2 k x hkx (fun e => h0 (Option.some.inj e).symm), hBh, hcn⟩
  refine (run_core (b₀ := base 67) (a₀ := ⟨Ts2, []⟩) (m0 := ()) (t := notesT W2 c.V ui Li) (tvs := ifs ui) (ps := qs) hCo (by rw [hifl]; exact I.n) I.np (fun i hi => by rw [hifl]; exact I.lt i hi) (fun v hv => by obtain ⟨x, _, rfl⟩ := List.mem_map.1 hv; exact ⟨_, _, rfl⟩) hWd2 (fun i _ => ?_) hvr (vrow_kp kp2 I.picks) notes_ok (fun k v hv => notes_tvk W2 c.V k v hv) (fun _ w h => h) (fun w h => h) (notes_sum W2 c.V ui Li I.few (by rw [hifl]; exact I.n)) trivial (fun b e R hl S2 k hk => ?_) hgs hg hBp C).bind fun m₃ T₃ h₃ => ?_
  · show (if c.γ ≤ i then c.wg else c.Fwg i) ≤ W2.heap.size
    split
    · omega
    · have := hfwg i (by omega); have := kp2.1; omega
  · have e1 : b.N₀ = W2.heap.size := R.N₀
    have e2 : b.FV = c.V := R.FV
    obtain ⟨a, c', h1, h2⟩ := I.nts k
    refine turns_of_walk (Sh0 := c.Sh) (by rw [e1, e2]; exact notes_ok) (by rw [e1]; exact notes_walk (fun p a v hc hv hp i => hWd2.sh a v hc hv ⟨p, i, none⟩ hp.symm) (fun a v hc hv => hWd2.nv a v hc hv) k ⟨a, c', h1, nts_kp kp2 h2, by have := I.few k; omega⟩) (fun a ha => ?_)
    rw [e1]
    exact R.sh a ha
  clear hg hBp C hBy hBh hcn hgs
  obtain ⟨St', Ch', Sh', n', hM, hn', gs, w3, sl, q, Rd, B, cn, g, rfl, hgs, hg, ⟨u, rfl, hR⟩, ⟨⟨d1, d2, d3, d4, d5⟩, hgo⟩, C⟩ := h₃
  have hrow := hR.row
  rw [hfin] at hrow
  obtain ⟨a3, c3, rfl, hev⟩ := own_evrow0 hrow
  have hsz3 := hR.size
  -- what the task leans on from now on
  let rowV : Addr → Value → Prop := fun x v => ∃ g, a3 = some ⟨g, 0, none⟩ ∧ ∃ (k : Nat) (y : Int × ByteArray), (refRun Li qs)[k]? = some y ∧ ((x = ⟨g, k * 2, none⟩ ∧ v = .int .i64 y.1) ∨ (x = ⟨g, k * 2 + 1, none⟩ ∧ v = .string y.2))
  have hrowV : ∀ x v, rowV x v → w3.cell? x = some v ∧ NotFn v ∧ ¬ Sh' (.cell x) ∧ W2.heap.size ≤ x.block := by
    rintro x v ⟨g, rfl, k, y, hy, hxv⟩
    rcases hev with h0 | ⟨g', e, hb, hob, hc⟩
    · rw [h0] at hy; simp at hy
    · obtain rfl : g = g' := by cases e; rfl
      rcases hxv with ⟨rfl, rfl⟩ | ⟨rfl, rfl⟩
      · exact ⟨(hc k y hy).1, (fun _ _ _ h => by cases h), hR.shr g hob _ rfl, hb⟩
      · exact ⟨(hc k y hy).2, (fun _ _ _ h => by cases h), hR.shr g hob _ rfl, hb⟩
  let row : Addr → Prop := fun x => ∃ v, rowV x v
  have hrow1 : ∀ a, row a → ∃ v, w3.cell? a = some v ∧ NotFn v := fun a ⟨v, hv⟩ => ⟨v, (hrowV a v hv).1, (hrowV a v hv).2.1⟩
  have hrow2 : ∀ a, row a → W2.heap.size ≤ a.block := fun a ⟨v, hv⟩ => (hrowV a v hv).2.2.2
  have hM' : MoreX (c.X True) W2.heap.size St' (fun x => Ch' x ∧ x < w3.heap.size) Sh' := ⟨hM.st, hM.st', fun x hx => ⟨hM.ch x hx, by have := (S.floor (on := True)).ch x hx; omega⟩, fun x hx => hM.ch' x hx.1, hM.sh, hM.sh'⟩
  have hsame : ∀ b, b < W2.heap.size → ¬ c.V b → w3.heap[b]? = W2.heap[b]? := hR.tm
  let c' : Rc := c.wi (c.behind St' (fun x => Ch' x ∧ x < w3.heap.size) Sh' n' w3.heap.size row)
  have hb := behind_wb (n' := n') (row := row) (L' := LeanX r c.ev b1 b2 ((nestT W us L (nvN ap al qs.length pcap ui.length lcap)).tv 0) (0 : Nat) rowV) S O hL hF2.1 hM' hsz3 hsame hR.shg (fun a v hav => hav.elim (fun h => .inl (.inl h)) fun h => .inr ⟨⟨v, h⟩, hrowV a v h⟩)
  obtain ⟨u₂, hu₂⟩ := hF2.2
  have hev3 : Evs (c'.X True) c.V c.ev s.E u₂ w3 := behind_evs (n' := n') (row := row) hu₂ S hB2 hM' hsame hrow2
  obtain ⟨S0, G'⟩ := behind_rs (n' := n') (B' := w3.heap.size) (row := row) S hM' hB2 (by omega) hn' C.shlow
  have S' : Rs c' := S0
  have C' := behind_crew (n' := n') (row := row) S hM' hB2 hrow1 (fun x hx => hx.2) (crew_ch C.toCrewM)
  have fx' := fx_of (c := c') (en := s.en) S' O hb.1 s.m
  have hq' : ∀ w w', Ext c.V w w' → (∃ u, Evs (c'.X True) c.V c.ev s.E u w) → ∃ u, Evs (c'.X True) c.V c.ev s.E u w' := fun w w' r h => h.imp fun u hu => evs_rl fx' w w' r hu
  have hrowIn : refRun Li qs = [] ∨ ∃ g, a3 = some ⟨g, 0, none⟩ ∧ RowIn rowV g (refRun Li qs) := hev.imp id fun ⟨g, e, _⟩ => ⟨g, e, fun k x hx => ⟨⟨g, e, k, x, hx, .inl ⟨rfl, rfl⟩⟩, ⟨g, e, k, x, hx, .inr ⟨rfl, rfl⟩⟩⟩⟩
  have HF : Held Try.prog (c'.X True) c'.V (c'.γ + 0) 0 c'.n (fun B cn => Bys (nestT W us L (nvN ap al qs.length pcap ui.length lcap)) c' s (some 0) B cn ∧ B c'.h = .seat r.cp (.bool false) (homeM r cs0) ∧ cn (c'.γ + 0) = 1) (fun g w => g = G ((base 67).at (Act.put ⟨Ts2, []⟩ ((opsE1[5]?).bind (·.dst)) (.tuple #[.slice a3 (refRun Li qs).length c3, .int .i64 0])) (.inRegion opsE1 (6 :: tl) :: [.code (rt (rt bodyE))])) [frR c.ev r.bi r.bs r.cr b1 b2 ((nestT W us L (nvN ap al qs.length pcap ui.length lcap)).tv 0) xv, fr3 c.wg r.bw r.bt c.ev r.bi r.bs ((nestT W us L (nvN ap al qs.length pcap ui.length lcap)).tv 0), bot] ∧
      (WB (c'.X True) c'.B₀ (LeanX r c.ev b1 b2 ((nestT W us L (nvN ap al qs.length pcap ui.length lcap)).tv 0) (0 : Nat) rowV) (fun w => WrW (nestT W us L (nvN ap al qs.length pcap ui.length lcap)) c' s.en (LeanX r c.ev b1 b2 ((nestT W us L (nvN ap al qs.length pcap ui.length lcap)).tv 0) (0 : Nat) rowV) w ∧ (nestT W us L (nvN ap al qs.length pcap ui.length lcap)).Tm s.m w) w ∧ ∃ u, Evs (c'.X True) c.V c.ev s.E u w)) (crowd gs w3 sl) T₃ := by
    refine ⟨gs, w3, sl, q, Rd, B, cn, _, rfl, hgs, hg, ⟨rfl, hb.2, u₂, hev3⟩, ⟨⟨d1, fun j hj' => ?_, fun k x hkx h0 => d3 k x hkx (fun e => h0 (by rw [e]))⟩, d4, d5⟩, ⟨C', C.sys⟩⟩
    by_cases hjn : j < c.n
    · exact d2 j hj' hjn
    · exact hgo j (by omega)
  refine (HF.walk (ws_stb S') (K' := fun g w => ∃ b1 b2 ex, (∀ a v, LeanX r c'.ev b1 b2 ((nestT W us L (nvN ap al qs.length pcap ui.length lcap)).tv 0) (0 : Nat) ex a v → ¬ c'.Sh (.cell a) ∧ a.block ≠ c'.ev) ∧
    (nestT W us L (nvN ap al qs.length pcap ui.length lcap)).Turned (c'.X True) c'.V c'.B₀ r c'.wg c'.ev 0 (s.loc 0) s.m b1 b2 s.E (WrW (nestT W us L (nvN ap al qs.length pcap ui.length lcap)) c' s.en (LeanX r c'.ev b1 b2 ((nestT W us L (nvN ap al qs.length pcap ui.length lcap)).tv 0) (0 : Nat) ex)) ex g w) fun g w hK => ?_).mono fun m' T' h => ⟨_, G', S0, h⟩
  obtain ⟨rfl, hK⟩ := hK
  refine ⟨30 + 200, ?_⟩
  show Goes _ (c.γ + 0 == 0) _ _ _ _ _ _
  rw [hf]
  refine goes_then hT (fun g w h => ?_) (Ext.refl _ w) (e_after (R := Ext c.V) (X := c'.X True) (Q := fun w => WB (c'.X True) c'.B₀ (LeanX r c.ev b1 b2 ((nestT W us L (nvN ap al qs.length pcap ui.length lcap)).tv 0) (0 : Nat) rowV) (fun w => WrW (nestT W us L (nvN ap al qs.length pcap ui.length lcap)) c' s.en (LeanX r c.ev b1 b2 ((nestT W us L (nvN ap al qs.length pcap ui.length lcap)).tv 0) (0 : Nat) rowV) w ∧ (nestT W us L (nvN ap al qs.length pcap ui.length lcap)).Tm s.m w) w ∧ ∃ u, Evs (c'.X True) c.V c.ev s.E u w) (fun w w' h r => wb_rl fx' hq' h r) htl _ Ts2 s0 s1 w hK) (fun a => Ext.refl _ a)
  obtain ⟨⟨T'', ⟨t0, t1, t17, t18, t19⟩, rfl⟩, hF⟩ := h
  obtain ⟨N, h, hN⟩ := e_head0 (wg := c.wg) I.list hrowIn I.n63 fx' hE xv T'' t0 t1 t17 t18 t19 w hF
  refine goes_imp (fun _ _ x => x) (fun _ _ _ x => x) (fun g w h => ⟨b1, b2, rowV, hb.1, ?_⟩) (Goes.mono h hN)
  rw [hj]
  exact h
end
end
end Go.Proofs.Ytggfcdhkgldbfaa
