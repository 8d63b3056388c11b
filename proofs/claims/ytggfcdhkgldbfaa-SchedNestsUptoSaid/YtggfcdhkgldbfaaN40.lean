/-
  PARTS of a claim, merged by segs.py: NwFin, NwGv, NwNe1.
-/
import Derived.Test.YtggfcdhkgldbfaaN36
import Derived.Test.YtggfcdhkgldbfaaN39
import Derived.Test.YtggfcdhkgldbfaaN08
import Derived.Test.YtggfcdhkgldbfaaN11
import Derived.Test.YtggfcdhkgldbfaaN18
import Derived.Test.YtggfcdhkgldbfaaN27
namespace Go.Proofs.Ytggfcdhkgldbfaa
set_option linter.unusedSimpArgs false
set_option linter.unusedVariables false

/-! ### NwFin -/
section
set_option linter.unusedSimpArgs false
open Go Go.Conc Go.RowKit Go.ConcR.Gen Cw

/-! ### rows of memory -/
theorem cell_kp {W w : World} (h : Keep W w) {a : Addr} {v : Value} (hc : W.cell? a = some v) : w.cell? a = some v := by
  rw [cell_of_block (h.2 _ (block_of_cell hc))]; exact hc
theorem vrow_kp {W w : World} (h : Keep W w) {a : Option Addr} {us : List Value} (x : VRow W a us) : VRow w a us := by
  rcases x with x | ⟨b, o, ha, hc⟩
  · exact .inl x
  · exact .inr ⟨b, o, ha, fun k u hk => cell_kp h (hc k u hk)⟩
theorem evrow_kp {W w : World} (h : Keep W w) {a : Option Addr} {E : List (Int × ByteArray)} (x : EvRow W a E) : EvRow w a E := by
  rcases x with x | ⟨b, o, ha, hc⟩
  · exact .inl x
  · exact .inr ⟨b, o, ha, fun k x hk => ⟨cell_kp h (hc k x hk).1, cell_kp h (hc k x hk).2⟩⟩
theorem nts_kp {W w : World} (h : Keep W w) {a : Option Addr} {S : List ByteArray} (x : Nts a S W) : Nts a S w := by
  rcases x with x | ⟨b, o, ha, hc⟩
  · exact .inl x
  · exact .inr ⟨b, o, ha, fun k x hk => cell_kp h (hc k x hk)⟩
theorem strrows_kp {W w : World} (h : Keep W w) {v : Value} {L : List (List ByteArray)} (x : StrRows W v L) : StrRows w v L := by
  obtain ⟨a, cap, rfl, x⟩ := x
  refine ⟨a, cap, rfl, ?_⟩
  rcases x with x | ⟨b, o, ha, hc⟩
  · exact .inl x
  · refine .inr ⟨b, o, ha, fun k S hk => ?_⟩
    obtain ⟨u, hu, a', c', rfl, hn⟩ := hc k S hk
    exact ⟨_, cell_kp h hu, a', c', rfl, nts_kp h hn⟩
/-- The rows' headers, as a list. -/
theorem rows_us {W : World} {v : Value} {L : List (List ByteArray)} (x : StrRows W v L) : ∃ a cap us, v = .slice a L.length cap ∧ us.length = L.length ∧ VRow W a us ∧ (∀ u ∈ us, IsSl u) ∧ ∀ k, ∃ a c, slK us k = .slice a (Sk L k).length c ∧ Nts a (Sk L k) W := by
  obtain ⟨a, cap, rfl, x⟩ := x
  rcases x with rfl | ⟨b, o, rfl, hc⟩
  · exact ⟨a, cap, [], rfl, rfl, .inl rfl, fun u hu => by simp at hu, fun k => ⟨none, 0, by simp [slK, Sk], .inl (by simp [Sk])⟩⟩
  · have key : ∀ k, k < L.length → ∃ S, L[k]? = some S ∧ ∃ a c, (W.cell? ⟨b, o + k, none⟩) = some (.slice a S.length c) ∧ Nts a S W := fun k hk => by
      obtain ⟨u, hu, a', c', rfl, hn⟩ := hc k _ (List.getElem?_eq_getElem hk)
      exact ⟨_, List.getElem?_eq_getElem hk, a', c', hu, hn⟩
    refine ⟨some ⟨b, o, none⟩, cap, (List.range L.length).map fun k => (W.cell? ⟨b, o + k, none⟩).getD undef, rfl, by simp, .inr ⟨b, o, rfl, fun k u hk => ?_⟩, fun u hu => ?_, fun k => ?_⟩
    · rw [List.getElem?_map] at hk
      obtain ⟨j, hj, rfl⟩ := Option.map_eq_some_iff.1 hk
      obtain ⟨hlt, rfl⟩ := List.getElem?_eq_some_iff.1 hj
      simp only [List.length_range] at hlt
      simp only [List.getElem_range]
      obtain ⟨S, _, a', c', hu, _⟩ := key k hlt
      rw [hu]; rfl
    · obtain ⟨j, hj, rfl⟩ := List.mem_map.1 hu
      obtain ⟨S, _, a', c', hu, _⟩ := key j (List.mem_range.1 hj)
      rw [hu]; exact ⟨_, _, _, rfl⟩
    · by_cases hk : k < L.length
      · obtain ⟨S, hS, a', c', hu, hn⟩ := key k hk
        have hS' := (List.getElem?_eq_some_iff.1 hS).2
        refine ⟨a', c', ?_, ?_⟩
        · simp [slK, Sk, hk, hu, hS']
        · simpa [Sk, hS] using hn
      · exact ⟨none, 0, by simp [slK, Sk, hk], .inl (by simp [Sk, hk])⟩
theorem rin_of {W : World} {lp lo : Nat} {us : List Value} {L : List (List ByteArray)} (h : VRow W (some ⟨lp, lo, none⟩) us) (hk : ∀ k, ∃ a c, slK us k = .slice a (Sk L k).length c ∧ Nts a (Sk L k) W) (hb : ∀ k, (Sk L k).length ≤ 1000000) : Rin W lp lo us L := by
  refine ⟨fun k u hu => ?_, fun k hlt => ?_, hb⟩
  · rcases h with rfl | ⟨b, o, e, hc⟩
    · simp at hu
    · cases e; exact hc k u hu
  · obtain ⟨a, c, e, hn⟩ := hk k
    refine ⟨a, c, ?_, hn⟩
    rw [← e]
    simp [slK, hlt]
theorem refRun_nil {L : List (List ByteArray)} {ps : List Nat} (hL : L = []) (hp : ∀ x ∈ ps, x < L.length) : refRun L ps = [] := by
  subst hL
  have : ps = [] := List.eq_nil_iff_forall_not_mem.2 fun x hx => by have := hp x hx; simp at this
  subst this
  simp [refRun]
/-- ref.Run, whatever the rows are. -/
theorem c_refrun {Sh : Loc → Prop} {W : World} {main : Bool} (hS : ShOk Sh W) {al ap : Option Addr} {us : List Value} {L : List (List ByteArray)} {ps : List Nat} (lcap pcap : Nat)
    (hp : VRow W ap (ints ps)) (hl : VRow W al us) (hul : us.length = L.length) (hk : ∀ k, ∃ a c, slK us k = .slice a (Sk L k).length c ∧ Nts a (Sk L k) W) (hb : ∀ k, (Sk L k).length ≤ 1000000) (hn : L.length ≤ 64) (hps : ∀ x ∈ ps, x < L.length) (hpl : ps.length ≤ 4096) :
    ∃ k, ∀ w, Ext Vn W w → CallsC Try.prog main (Ext Vn) (HDq (Cx0 Sh)) 13 #[.slice ap ps.length pcap, .slice al L.length lcap] k w (fun r w' => Ext Vn W w' ∧ w'.ownsRow W.heap.size 41 2 r (refRun L ps).length (evCells (refRun L ps))) := by
  have hp0 : L.length ≤ 0 → ps.length ≤ 0 := fun h => by
    rw [show ps = [] from List.eq_nil_iff_forall_not_mem.2 fun x hx => by have := hps x hx; omega]; simp
  by_cases h0 : L.length ≤ 0
  · exact c_ref0 hS (al := al) (ap := ap) (us := us) lcap pcap hn h0 (hp0 h0) (refRun_nil (List.eq_nil_of_length_eq_zero (by omega)) hps)
  · have hl' := hl
    rcases hl with rfl | ⟨lp, lo, rfl, hc⟩
    · simp at hul; omega
    · have hI := rin_of hl' hk hb
      by_cases h1 : ps = []
      · exact c_ref1 hS (al := none) (ap := ap) lcap pcap hI (by omega) rfl hn (by simp [h1]) h1
      · rcases hp with e | ⟨pp, po, rfl, hpc⟩
        · exact absurd (List.map_eq_nil_iff.1 e) h1
        · exact c_ref2 hS lcap pcap hI (by omega) rfl hn (fun k x hx => hpc k _ (by simp [ints, hx])) hps hpl

/-! ### the frame -/
theorem Held.anchor [Ref] {P : Program} {X : Cx} {V : Nat → Prop} {h dh n : Nat} {Bp : (Nat → By) → (Nat → Nat) → Prop} {g₀ : Goroutine} {A : World → Prop} {m : Machine} {T : Trace} (H : Held P X V h dh n Bp (fun g w => g = g₀ ∧ A w) m T) : ∃ W, A W ∧ Held P X V h dh n Bp (fun g w => g = g₀ ∧ Ext V W w) m T := by
  obtain ⟨gs, w, sl, q, Rd, B, cn, g, rfl, hn, hg, ⟨rfl, hA⟩, hB, C⟩ := H
  exact ⟨w, hA, gs, w, sl, q, Rd, B, cn, _, rfl, hn, hg, ⟨rfl, Ext.refl V w⟩, hB, C⟩
/-- The call's beginning. -/
theorem held_init [R0 : Ref] (P : Program) (g : Goroutine) : Held P (Cx0 fun _ => False) Vn 0 0 1 Gone (fun g' w => g' = g ∧ Ext Vn R0.w w) (solo g R0.w) #[] := by
  rw [solo_eq_crowd]
  exact ⟨_, _, _, _, _, _, _, g, rfl, rfl, rfl, ⟨rfl, Ext.refl Vn _⟩, fun _ _ => rfl, crew_init P g R0.w, rfl, rfl⟩
/-- What a call leaves. -/
structure Leaves (W w : World) : Prop where
  keep : Keep W w
  os : w.os = W.os
  output : w.output = W.output
/-- The call's end. -/
theorem Held.finish [R0 : Ref] {P : Program} {K : Goroutine → World → Prop} {Post : Value → World → Prop} {m : Machine} {T : Trace} (H : Lands P m T (fun m' T' => ∃ Sh γ, Held P (Cx0 Sh) Vn 0 0 γ Gone K m' T'))
    (hK : ∀ Sh g w, K g w → Outs w → ∀ d, AtFin P (Cx0 Sh) Post g (w.at d)) :
    ∃ M last o w' t', runNT P (M + 1) m T = (.ended o w', t') ∧ runN P M m = .next last ∧ step P last = .ended o w' ∧ Go.Conc.Good P Post last o w' t' := by
  obtain ⟨N, m', T', hr, Sh, γ, gs, w, sl, q, Rd, B, cn, g, rfl, hn, hg, hk, hB, C⟩ := H
  obtain ⟨N₂, last, o, w', t', h1, h2, h3, h4⟩ := C.crew.ends hB (D := HDq (Cx0 Sh)) (n := 0) (Post := Post) (fun _ _ _ x => x) (sl := sl) hg (Goes.stop fun w' hw => by obtain ⟨d, rfl⟩ := hw; exact hK Sh g w hk C.sys d)
  refine ⟨N + N₂, last, o, w', t', ?_, ?_, h3, h4⟩
  · rw [show N + N₂ + 1 = N + (N₂ + 1) by omega, runNT_add, hr]; exact h1
  · rw [runN_add, ← runNT_fst P _ _ T, hr]; exact h2
end

/-! ### NwGv -/
section
open Go Go.Conc Go.RowKit Go.ConcR.Gen Cw

def gv (T : Array Value) (i : Nat) : Value := (T[i]?).getD undef
theorem gv_of {T : Array Value} {i : Nat} {v : Value} (h : T[i]? = some v) : gv T i = v := by simp [gv, h]
theorem arr_eq (T : Array Value) (n : Nat) (h : T.size = n) : T = ((List.range n).map (gv T)).toArray := by
  subst h
  apply Array.ext
  · simp
  · intro i h1 h2
    simp [gv, h1]
end

/-! ### NwNe1 -/
section
set_option linter.unusedSimpArgs false
open Go Go.Conc Go.RowKit Go.ConcR.Gen Cw

noncomputable def bodyE : Code := Try.f67.body.getD .skip
noncomputable def rndE : Code := inner (inner (rt (rt (rt bodyE))))
noncomputable def opsE1 : Array Oper := opsOf (lf (rt bodyE))
noncomputable def opsE5 : Array Oper := opsOf (rt (inner (lf (rt (rt rndE)))))
abbrev fNe (T : Array Value) (k : List Item) : Frame := (base 67).at ⟨T, []⟩ k
noncomputable def todoE : List Item := [.inBlock 1, .code (rt (rt (rt rndE))), .inLoop rndE, .inBlock 0]
noncomputable def headE (T : Array Value) (cs : List Frame) : Goroutine := G (fNe T [.code rndE, .inLoop rndE, .inBlock 0]) cs
theorem invoke_nested (x y : Value) (w : World) : (invoke (.fn (.method "Run") #[]) #[.iface 43 x, y]).run Try.prog w = .ok (.enter 67 #[x, y]) w := by kernel_rfl
theorem invoke_nestedE (x y : Value) (w : World) (es : Array Event) : (invoke (.fn (.method "Run") #[]) #[.iface 43 x, y]).events Try.prog w es = es := by kernel_rfl
set_option maxRecDepth 100000 in
set_option maxHeartbeats 4000000 in
theorem goes_nested {main : Bool} {b : Frame} {a : Act} {k : List Item} {cs : List Frame} {w : World} {ops : Array Oper} {i : Nat} {rest : List Nat} {o : Oper} {K : Goroutine → World → Array Event → Prop} {r y : Operand} {ats : Array TypeId} {x : Value} (ho : ops[i]? = some o) (hw : Region.wanted o (yielded ops a.tmps) = true) (hk : b.kind ≠ .early)
    (hop : o.op = .call { callee := .invoke r "Run", args := #[y], argTypes := ats }) (hr : a.eval r = .iface 43 x) (h : K (G (fNe #[x, a.eval y, undef, undef, undef, undef, undef, undef, undef, undef, undef, undef, undef, undef, undef, undef, undef, undef, undef, undef, undef, undef, undef, undef, undef, undef, undef, undef] [.code bodyE]) (b.at a (.inRegion ops (i :: rest) :: k) :: cs)) w #[]) :
    (stepG Try.prog main (G (b.at a (.inRegion ops (i :: rest) :: k)) cs) w).goes K := by
  have hrun : (execOp a.eval o).run Try.prog w = .ok (.enter 67 #[x, a.eval y]) w := by
    unfold execOp
    simp [hop, resolve, hr, invoke_nested]
  have hev : (execOp a.eval o).events Try.prog w #[] = #[] := by
    unfold execOp
    simp [hop, resolve, hr, invoke_nestedE]
  rw [stepG_enter ho hw hk hrun, enter_at (c := bodyE) _ Try.func67 (by simp [bodyE, Try.f67]), listed_nil hev]
  simp only [Try.ntmps67, List.size_toArray, List.length_cons, List.length_nil, Nat.reduceAdd, Nat.reduceSub, Nat.zero_add, Nat.sub_zero, Array.replicate_succ, Array.replicate_zero, List.push_toArray, List.append_toArray, List.nil_append, List.cons_append]
  exact h
set_option maxRecDepth 100000 in
set_option maxHeartbeats 2000000 in
/-- Served for the first time, the worker enters its task. -/
theorem e_begin0 {R : World → World → Prop} {X : Cx} {Stop : Goroutine → World → Prop} {m : Nat} (hT : ∀ a b c, R a b → R b c → R a c) (wg bw bt ev bi bs cr b1 b2 : Nat) (x xv : Value) (w : World)
    (hF : Goes Try.prog false R (HDq X) Stop m (G (fNe #[x, yldF b1 b2, undef, undef, undef, undef, undef, undef, undef, undef, undef, undef, undef, undef, undef, undef, undef, undef, undef, undef, undef, undef, undef, undef, undef, undef, undef, undef] [.code bodyE]) [frR ev bi bs cr b1 b2 (.iface 43 x) xv, fr3 wg bw bt ev bi bs (.iface 43 x), bot]) w) :
    Goes Try.prog false R (HDq X) Stop (m + 5) (Go.Conc.served (at1 wg bw bt ev bi bs cr b1 b2 (.iface 43 x)) xv) w := by
  have hRt : ∀ {w w' : World}, Goes Try.prog false R (HDq X) Stop m (G (fNe #[x, yldF b1 b2, undef, undef, undef, undef, undef, undef, undef, undef, undef, undef, undef, undef, undef, undef, undef, undef, undef, undef, undef, undef, undef, undef, undef, undef, undef, undef] [.code bodyE]) [frR ev bi bs cr b1 b2 (.iface 43 x) xv, fr3 wg bw bt ev bi bs (.iface 43 x), bot]) w → R w w' → Goes Try.prog false R (HDq X) Stop m (G (fNe #[x, yldF b1 b2, undef, undef, undef, undef, undef, undef, undef, undef, undef, undef, undef, undef, undef, undef, undef, undef, undef, undef, undef, undef, undef, undef, undef, undef, undef, undef] [.code bodyE]) [frR ev bi bs cr b1 b2 (.iface 43 x) xv, fr3 wg bw bt ev bi bs (.iface 43 x), bot]) w' := fun h r => h.rely hT r
  unfold at1
  rw [served_fr, Frame.finish_at]
  simp only [bodyR, rt, lf, opsOf, Try.f21, Option.getD_some]
  walk_nrm
  refine Goes.step rfl (fun w hr => ?_)
  replace hF := hRt hF hr
  clear hr
  rw [stepG_region_end]
  simp only [goes_go]
  refine ⟨hdq_idle _ _, ?_⟩
  refine Goes.step rfl (fun w hr => ?_)
  replace hF := hRt hF hr
  clear hr
  rw [stepG_region]
  simp only [goes_go, List.size_toArray, List.length_cons, List.length_nil, Nat.reduceAdd, Nat.zero_add, List.range, List.range.loop]
  refine ⟨hdq_idle _ _, ?_⟩
  refine Goes.step rfl (fun w hr => ?_)
  replace hF := hRt hF hr
  clear hr
  refine goes_oper_k rfl rfl (by k_ne) (fun K hK => ?_)
  go_simp
  refine hK _ _ ⟨?_, ?_⟩
  · rw [listed_nil (by simp [go_sem])]; exact hdq_idle _ _
  clear hK K
  try walk_nrm
  refine Goes.step rfl (fun w hr => ?_)
  replace hF := hRt hF hr
  clear hr
  refine goes_oper_k rfl rfl (by k_ne) (fun K hK => ?_)
  go_simp
  refine hK _ _ ⟨?_, ?_⟩
  · rw [listed_nil (by simp [go_sem])]; exact hdq_idle _ _
  clear hK K
  try walk_nrm
  refine Goes.step rfl (fun w hr => ?_)
  replace hF := hRt hF hr
  clear hr
  refine goes_nested rfl rfl (by k_ne) rfl rfl ⟨hdq_idle _ _, ?_⟩
  walk_nrm
  exact hF
section
variable {X : Cx} {V : Nat → Prop} {B : Nat} {L : Addr → Value → Prop} {ev : Nat} {Tk Q : World → Prop}
set_option maxRecDepth 100000 in
set_option maxHeartbeats 2000000 in
/-- The record is boxed. -/
theorem e_entry (fx : Fx X V B L ev Tk) (hq : ∀ w w', Ext V w w' → Q w → Q w') (hQa : ∀ w o, Q w → Q (w.alloc o)) {pv lv yf : Value} (cs : List Frame) (w : World) (hF : WB X B L Tk w ∧ Q w) :
    Goes Try.prog false (Ext V) (HDq X) (fun g w => ∃ nb T, (T.size = 28 ∧ T[1]? = some yf ∧ T[2]? = some (pb nb)) ∧ B ≤ nb ∧ g = G (fNe T [.code (rt bodyE)]) cs ∧ (WB X B L Tk w ∧ Q w) ∧ w.heap[nb]? = some (Obj.cells #[pv, lv] 43 (0, 0))) 10
      (G (fNe #[.agg #[pv, lv], yf, undef, undef, undef, undef, undef, undef, undef, undef, undef, undef, undef, undef, undef, undef, undef, undef, undef, undef, undef, undef, undef, undef, undef, undef, undef, undef] [.code bodyE]) cs) w := by
  simp only [fNe, headE, todoE, opsE1, opsE5, rndE, bodyE, inner, rt, lf, opsOf, Try.f67, Option.getD_some]
  refine Goes.step rfl (fun w hr => ?_)
  replace hF := (wb_rl fx hq) hF hr
  clear hr
  rw [stepG_seq]
  simp only [goes_go]
  refine ⟨hdq_idle _ _, ?_⟩
  refine Goes.step rfl (fun w hr => ?_)
  replace hF := (wb_rl fx hq) hF hr
  clear hr
  rw [stepG_region]
  simp only [goes_go, List.size_toArray, List.length_cons, List.length_nil, Nat.reduceAdd, Nat.zero_add, List.range, List.range.loop]
  refine ⟨hdq_idle _ _, ?_⟩
  refine Goes.step rfl (fun w hr => ?_)
  replace hF := (wb_rl fx hq) hF hr
  clear hr
  refine goes_oper_k rfl rfl (by k_ne) (fun K hK => ?_)
  go_simp
  refine hK _ _ ⟨?_, ?_⟩
  · rw [listed_nil (by simp [go_sem, *])]
    exact hdq_alloc (fun a ha => Nat.lt_of_lt_of_le (fx.floor.st a ha) hF.1.size) (fun c hc => Nat.lt_of_lt_of_le (fx.floor.ch c hc) hF.1.size) (fun b o => Nat.lt_of_lt_of_le (fx.floor.wg b o) hF.1.size) (by simp)
  clear hK K
  try walk_nrm
  have hn := hF.1.size
  replace hF : WB X B L Tk (w.alloc (Obj.cells #[pv, lv] 43 (0, 0))) ∧ (Q (w.alloc (Obj.cells #[pv, lv] 43 (0, 0))) ∧ (w.alloc (Obj.cells #[pv, lv] 43 (0, 0))).heap[w.heap.size]? = some (Obj.cells #[pv, lv] 43 (0, 0))) :=
    ⟨hF.1.only fx (onlyEv_alloc X ev w _), hQa _ _ hF.2, heap_alloc_new w _⟩
  generalize w.heap.size = nb at *
  generalize w.alloc _ = w at *
  have hq0 := hq
  clear hq
  have hq : ∀ w w', Ext V w w' → (Q w ∧ w.heap[nb]? = some (Obj.cells #[pv, lv] 43 (0, 0))) → (Q w' ∧ w'.heap[nb]? = some (Obj.cells #[pv, lv] 43 (0, 0))) := fun w w' r h => ⟨hq0 w w' r h.1, (r.same nb (Array.getElem?_eq_some_iff.1 h.2).1 (fx.floor.ok hn).nv).trans h.2⟩
  refine Goes.step rfl (fun w hr => ?_)
  replace hF := (wb_rl fx hq) hF hr
  clear hr
  rw [stepG_region_end]
  simp only [goes_go]
  refine ⟨hdq_idle _ _, ?_⟩
  refine Goes.stop (fun w hr => ⟨nb, _, ⟨?_, ?_, ?_⟩, hn, rfl, ⟨(wb_rl fx hq0 ⟨hF.1, hF.2.1⟩ hr).1, hq0 _ _ hr hF.2.1⟩, (hq _ _ hr hF.2).2⟩) <;> rfl
end
end
end Go.Proofs.Ytggfcdhkgldbfaa
