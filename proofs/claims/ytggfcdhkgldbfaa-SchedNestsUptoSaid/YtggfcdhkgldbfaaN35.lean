/-
  PARTS of a claim, merged by segs.py: NwTop, NwAwk2, NwPl.
-/
import Derived.Test.YtggfcdhkgldbfaaN34
import Derived.Test.YtggfcdhkgldbfaaN33
import Derived.Test.YtggfcdhkgldbfaaN32
namespace Go.Proofs.Ytggfcdhkgldbfaa
set_option linter.unusedSimpArgs false
set_option linter.unusedVariables false

/-! ### NwTop -/
section
set_option linter.unusedSimpArgs false
open Go Go.Conc Go.RowKit Go.ConcR.Gen Cw
open Go.ConcN (sumTo upd upd_same upd_ne sumTo_upd sumTo_congr le_sumTo WgLive)

/-- Main's frame for a run. -/
def Xt (Sh : Loc → Prop) (N : Nat) : Cx := { Cx0 Sh with Bx := BxW, Ex := fun b => b < N, ty := link.tWg }
def BpT (γ : Nat) (B : Nat → By) (_ : Nat → Nat) : Prop := ∀ j, 0 < j → j < γ → B j = .gone
theorem wd_t {Sh : Loc → Prop} {W : World} (h : ShOk Sh W) (N : Nat) : Wd (Xt Sh N) Vn W := by
  have H := wd_of h
  exact ⟨⟨H.fl.st, H.fl.ch, H.fl.wg, H.fl.sh, H.fl.v, H.fl.ex⟩, H.sh, H.nv, fun _ _ h => h⟩
theorem bp_t (γ : Nat) : BpOk γ 0 (BpT γ) := by
  refine ⟨fun h' B cn B' cn' _ hB hl j h1 h2 => ?_, fun B cn B' cn' h1 _ hB j h3 h4 => ?_⟩
  · rcases hl.le j with e | ⟨⟨s, e⟩, _⟩
    · rw [e]; exact hB j h1 h2
    · rw [hB j h1 h2] at e; cases e
  · rw [h1 j h4 (by omega)]; exact hB j h3 h4
theorem co_t {γ : Nat} (hγ : 1 ≤ γ) (Sh : Loc → Prop) (N : Nat) : CoOk (Xt Sh N) Vn 0 γ (BpT γ) := ⟨rfl, rfl, fun _ h => h.elim, hγ, bp_t γ⟩
/-- The world at a call. -/
structure PreG [Ref] (γ : Nat) (Sh : Loc → Prop) (al ap : Option Addr) (tvs : List Value) (ps : List Nat) (t : World → Tasks) (m0 : (W : World) → (t W).M) (W : World) : Prop where
  sh : ShOk Sh W
  tasks : VRow W al tvs
  picks : VRow W ap (ints ps)
  ok : TasksOk (t W) W.heap.size Vn
  tm : ∀ w, (∀ b, b < W.heap.size → w.heap[b]? = W.heap[b]?) → (t W).Tm (m0 W) w
  frame : ∀ m w, (t W).Tm m w → ∀ b, b < W.heap.size → w.heap[b]? = W.heap[b]?
  tvk : ∀ (k : Nat) v, tvs[k]? = some v → (t W).tv k = v
  inv : (t W).InvS ((t W).s0 (m0 W))
  sum : (sumTo tvs.length (fun k => (t W).rk k ((t W).l0 k)) + 1) * 1024 ≤ 140737488355328
  turns : ∀ (b : Rb) (e : Re), RunOf (Xt Sh W.heap.size) Vn 0 γ W b e → b.ks.length = tvs.length → Rs { toRb := b, toRe := e } → ∀ k, k < tvs.length → TurnsOk (t W) b e k
section
variable {Sh : Loc → Prop} {al ap : Option Addr} {ps : List Nat} {tvs : List Value} {t : World → Tasks} {m0 : (W : World) → (t W).M}
set_option maxHeartbeats 1000000 in
theorem run_top [Ref] {γ tcap pcap : Nat} {Q : World → Prop} (hγ : 1 ≤ γ) (hn : tvs.length ≤ 64) (hnp : ps.length ≤ 4096) (hps : ∀ i ∈ ps, i < tvs.length) (hif : ∀ v ∈ tvs, ∃ ty x, v = .iface ty x)
    {b₀ : Frame} {a₀ : Act} {ops : Array Oper} {j : Nat} {rest : List Nat} {kk : List Item} {cs : List Frame} {m : Machine} {T : Trace}
    (H : Held Try.prog (Cx0 Sh) Vn 0 0 γ Gone (fun g w => g = G (fRun (entryT (.slice ap ps.length pcap) (.slice al tvs.length tcap)) [.code bodyM]) (b₀.at a₀ (.inRegion ops (j :: rest) :: kk) :: cs) ∧ PreG γ Sh al ap tvs ps t m0 w ∧ Q w) m T) :
    Lands Try.prog m T (fun m' T' => ∃ Sh' γ', 1 ≤ γ' ∧ Held Try.prog (Cx0 Sh') Vn 0 0 γ' Gone (fun g w => ∃ W u, g = G (b₀.at (a₀.put ((ops[j]?).bind (·.dst)) (.tuple #[u, .int .i64 0])) (.inRegion ops rest :: kk)) cs ∧ PreG γ Sh al ap tvs ps t m0 W ∧ Q W ∧ Keep W w ∧
      (t W).Tm ((t W).fin (m0 W) tvs.length ps).m w ∧ ShOk Sh' w ∧ w.ownsRow W.heap.size 40 2 u ((t W).fin (m0 W) tvs.length ps).E.length (evCells ((t W).fin (m0 W) tvs.length ps).E)) m' T') := by
  obtain ⟨gs, W, sl, q, Rd, B, cn, g, rfl, hgs, hg, ⟨rfl, hP, hQ⟩, hB, C⟩ := H
  have C' : CrewI Try.prog (Xt Sh W.heap.size) Vn 0 0 B (fun _ _ => False) cn T gs W q := ⟨CrewM.anew C.toCrewM (X' := Xt Sh W.heap.size) (V' := Vn) hB (fun _ h => h) (fun _ h => h.elim) (fun _ h => h) rfl (fun _ h => h.elim), C.sys⟩
  refine (run_core (co_t hγ Sh W.heap.size) hn hnp hps hif (wd_t hP.sh _) (fun i _ => Nat.zero_le _) hP.tasks hP.picks hP.ok hP.tvk (fun m w h b hb _ => hP.frame m w h b hb) (fun w h => hP.tm w fun b hb => h b hb id) hP.sum hP.inv hP.turns hgs hg (fun j h1 _ => hB j (by omega)) C').mono fun m' T' h => ?_
  obtain ⟨St', Ch', Sh', n', hM, hn', gs', w, sl', q', Rd', B', cn', g', rfl, hgs', hg', ⟨u, rfl, hE⟩, ⟨hb1, hb2⟩, C₂⟩ := h
  have hgone : Gone B' cn' := fun i hi => by
    by_cases h : i < γ
    · exact hb1 i (by omega) h
    · exact hb2 i (by omega)
  refine ⟨Sh', n', by omega, gs', w, sl', q', fun _ _ => False, B', cn', _, rfl, hgs', hg', ⟨W, u, rfl, hP, hQ, ⟨hE.size, hP.frame _ _ hE.tm⟩, hE.tm, fun a ha => ?_, hE.row⟩, hgone, ⟨CrewM.anew C₂.toCrewM (X' := Cx0 Sh') (V' := Vn) hgone (fun _ h => h) (fun _ h => h.elim) (fun _ h => h.elim) rfl (fun _ h => h.elim), C₂.sys⟩⟩
  rcases hE.shg a ha with ⟨h1, h2⟩ | h
  · obtain ⟨st, sm, hw⟩ := hP.sh a h1
    refine ⟨st, sm, ?_⟩
    unfold Go.ConcR.WgAt at hw ⊢
    rw [hP.frame _ _ hE.tm _ h2]
    exact hw
  · exact h
end
/-- The world at a call of sched.Run whose tasks are notes. -/
structure Pre (Sh : Loc → Prop) (al ap : Option Addr) (us : List Value) (L : List (List ByteArray)) (ps : List Nat) (W : World) : Prop where
  sh : ShOk Sh W
  tasks : VRow W al (ifs us)
  picks : VRow W ap (ints ps)
  rows : ∀ k, ∃ a c, slK us k = .slice a (Sk L k).length c ∧ Nts a (Sk L k) W
theorem notes_sum (W : World) (FV : Nat → Prop) (us : List Value) (L : List (List ByteArray)) (hLb : ∀ k, (Sk L k).length ≤ 1000000) {n : Nat} (hn : n ≤ 64) : (sumTo n (fun k => (notesT W FV us L).rk k ((notesT W FV us L).l0 k)) + 1) * 1024 ≤ 140737488355328 := by
  have hLsum : ∀ m, m ≤ 64 → sumTo m (fun k => (notesT W FV us L).rk k ((notesT W FV us L).l0 k)) ≤ m * 1000000 := by
    intro m
    induction m with
    | zero => intro _; exact Nat.le_refl _
    | succ m ih =>
      intro hm
      have h1 := ih (by omega)
      have h2 := hLb m
      have h3 : (notesT W FV us L).rk m ((notesT W FV us L).l0 m) = (Sk L m).length - 0 := rfl
      rw [sumTo, h3]
      omega
  have := hLsum n hn
  omega
section
variable {Sh : Loc → Prop} {al ap : Option Addr} {us : List Value} {L : List (List ByteArray)} {ps : List Nat}
theorem notes_tvk (W : World) (FV : Nat → Prop) (k : Nat) (v : Value) (h : (ifs us)[k]? = some v) : (notesT W FV us L).tv k = v := by
  unfold ifs at h
  rw [List.getElem?_map, Option.map_eq_some_iff] at h
  obtain ⟨u, hu, rfl⟩ := h
  simp [notesT, slK, hu]
theorem Pre.g [Ref] {W : World} (h : Pre Sh al ap us L ps W) (hn : us.length ≤ 64) (hLb : ∀ k, (Sk L k).length ≤ 1000000) (γ : Nat) : PreG γ Sh al ap (ifs us) ps (fun W => notesT W Vn us L) (fun _ => ()) W := by
  have H := wd_of h.sh
  refine ⟨h.sh, h.tasks, h.picks, notes_ok, fun w hw b hb _ => hw b hb, fun _ w hw b hb => hw b hb id, fun k v hv => notes_tvk W Vn k v hv, trivial, notes_sum W Vn us L hLb (by simpa [ifs] using hn), fun b e R hl S k hk => ?_⟩
  have e1 : b.N₀ = W.heap.size := R.N₀
  have e2 : b.FV = Vn := R.FV
  obtain ⟨a, c, h1, h2⟩ := h.rows k
  refine turns_of_walk (Sh0 := Sh) (by rw [e1, e2]; exact notes_ok) (by rw [e1]; exact notes_walk (fun p a v hc hv hp i => H.sh a v hc hv ⟨p, i, none⟩ hp.symm) (fun a v _ _ hh => hh.elim) k ⟨a, c, h1, h2, by have := hLb k; omega⟩) (fun a ha => ?_)
  rw [e1]
  exact R.sh a ha
theorem run_notes [Ref] {γ tcap pcap : Nat} {Q : World → Prop} (hγ : 1 ≤ γ) (hn : us.length ≤ 64) (hnp : ps.length ≤ 4096) (hps : ∀ i ∈ ps, i < us.length) (hus : ∀ u ∈ us, IsSl u) (hLb : ∀ k, (Sk L k).length ≤ 1000000)
    {b₀ : Frame} {a₀ : Act} {ops : Array Oper} {j : Nat} {rest : List Nat} {kk : List Item} {cs : List Frame} {m : Machine} {T : Trace}
    (H : Held Try.prog (Cx0 Sh) Vn 0 0 γ Gone (fun g w => g = G (fRun (entryT (.slice ap ps.length pcap) (.slice al us.length tcap)) [.code bodyM]) (b₀.at a₀ (.inRegion ops (j :: rest) :: kk) :: cs) ∧ Pre Sh al ap us L ps w ∧ Q w) m T) :
    Lands Try.prog m T (fun m' T' => ∃ Sh' γ', 1 ≤ γ' ∧ Held Try.prog (Cx0 Sh') Vn 0 0 γ' Gone (fun g w => ∃ W u, g = G (b₀.at (a₀.put ((ops[j]?).bind (·.dst)) (.tuple #[u, .int .i64 0])) (.inRegion ops rest :: kk)) cs ∧ Pre Sh al ap us L ps W ∧ Q W ∧ Keep W w ∧ ShOk Sh' w ∧
      w.ownsRow W.heap.size 40 2 u ((notesT W Vn us L).fin () us.length ps).E.length (evCells ((notesT W Vn us L).fin () us.length ps).E)) m' T') := by
  have hlen : (ifs us).length = us.length := by simp [ifs]
  refine (run_top (al := al) (ap := ap) (tvs := ifs us) (ps := ps) (t := fun W => notesT W Vn us L) (m0 := fun _ => ()) (tcap := tcap) (pcap := pcap) (Q := fun w => Q w ∧ Pre Sh al ap us L ps w) hγ (by omega) hnp (by rw [hlen]; exact hps) (fun v hv => by obtain ⟨x, _, rfl⟩ := List.mem_map.1 hv; exact ⟨_, _, rfl⟩) (H.mono (fun g w h => ⟨by rw [hlen]; exact h.1, h.2.1.g hn hLb γ, h.2.2, h.2.1⟩) fun _ _ h => h)).mono fun m' T' h => ?_
  obtain ⟨Sh', γ', h1, H'⟩ := h
  refine ⟨Sh', γ', h1, H'.mono (fun g w h => ?_) fun _ _ h => h⟩
  obtain ⟨W, u, e, _, ⟨hQ, hP⟩, hk, _, hs, hr⟩ := h
  rw [hlen] at hr
  exact ⟨W, u, e, hP, hQ, hk, hs, hr⟩
end
end

/-! ### NwAwk2 -/
section
set_option linter.unusedSimpArgs false
open Go Go.Conc Go.RowKit Go.ConcR.Gen Cw

section
variable {Sh : Loc → Prop} {W : World} {mn : Bool} {Q : World → Prop}
set_option maxRecDepth 100000 in
set_option maxHeartbeats 2000000 in
/-- Through tasks, into sched.Run. -/
theorem a_run (hrl : ∀ w w', Q w → Ext Vn w w' → Q w') {pa sl kc : Nat} {Rs' : Value → World → Prop} (hRs : ∀ r w w', Rs' r w → Ext Vn w w' → Rs' r w') (cs : List Frame) (w : World) (hF : Q w) (T : Array Value) (hT : T.size = 22) (h4 : T[4]? = some (.slice (some ⟨pa, 0, none⟩) 2 2)) (h7 : T[7]? = some (.slice (some ⟨sl, 0, none⟩) 2 2))
    (hkc : CallsC Try.prog mn (Ext Vn) (HDq (Cx0 Sh)) 11 #[.slice (some ⟨sl, 0, none⟩) 2 2] kc w (fun r w' => Q w' ∧ Rs' r w')) :
    Goes Try.prog mn (Ext Vn) (HDq (Cx0 Sh)) (fun g w => ∃ r T', T'.size = 22 ∧ g = G (fRun (entryT (.slice (some ⟨pa, 0, none⟩) 2 2) r) [.code bodyM]) (fAw T' (.inRegion ops9a (5 :: [6, 7, 8, 9, 10]) :: .code (rt (rt body9)) :: []) :: cs) ∧ Q w ∧ Rs' r w) (10 + kc + 3)
      (G (fAw T (.inRegion ops9a [4, 5, 6, 7, 8, 9, 10] :: .code (rt (rt body9)) :: [])) cs) w := by
  obtain ⟨v0, v1, v2, v3, v4, v5, v6, v7, v8, v9, v10, v11, v12, v13, v14, v15, v16, v17, v18, v19, v20, v21, rfl⟩ := arr22 T hT
  simp only [List.getElem?_toArray, List.getElem?_cons_zero, List.getElem?_cons_succ, Option.some.injEq] at h4 h7
  subst h4
  subst h7
  simp only [fAw, ops9a, body9, inner, rt, lf, opsOf, Try.f9, Option.getD_some]
  refine Goes.call (hdq_terms (Cx0 Sh) Vn) (f := 11) (args := #[.tmp 7]) (ats := #[23]) rfl rfl (by k_ne) rfl (by simp only [List.map_toArray, List.map_cons, List.map_nil, Act.eval]; exact hkc) (fun r w hv => ?_)
  clear hF hkc
  obtain ⟨hF, hR⟩ := hv
  try walk_nrm
  refine Goes.step rfl (fun w hr => ?_)
  replace hF := hrl _ _ hF hr
  replace hR := hRs _ _ _ hR hr
  clear hr
  refine goes_call rfl rfl (by k_ne) rfl Try.func10 rfl rfl ⟨hdq_idle _ _, ?_⟩
  refine Goes.stop (fun w hr => ⟨r, #[v0, v1, v2, v3, .slice (some ⟨pa, 0, none⟩) 2 2, v5, v6, .slice (some ⟨sl, 0, none⟩) 2 2, r, v9, v10, v11, v12, v13, v14, v15, v16, v17, v18, v19, v20, v21], ?_, ?_, hrl _ _ hF hr, hRs _ _ _ hR hr⟩)
  · rfl
  · simp only [fRun, entryT, bodyM, Try.ntmps10, List.map_toArray, List.map_cons, List.map_nil, Act.eval, List.size_toArray, List.length_cons, List.length_nil, Nat.reduceAdd, Nat.reduceSub, Array.replicate_succ, Array.replicate_zero, List.push_toArray, List.append_toArray, List.nil_append, List.cons_append]
    rfl
theorem bR3 (i j k : Int) (x y z : ByteArray) (w : World) : (Instr.buildSlice 35 3 #[(0, .agg #[.int .i64 i, .string x]), (1, .agg #[.int .i64 j, .string y]), (2, .agg #[.int .i64 k, .string z])]).run Try.prog w = .ok (.slice (some ⟨w.heap.size, 0, none⟩) 3 3) (w.alloc (.cells #[.int .i64 i, .string x, .int .i64 j, .string y, .int .i64 k, .string z] 41)) := by
  obtain ⟨it, hit, h1, h2, _⟩ := reInfo
  refine run_buildSlice w _ _ 3 _ _ it _ (by kernel_rfl) hit h1 (by rw [h2]; omega) (by rw [h2]; omega) ?_
  rw [h2]
  kernel_rfl
theorem bR3E (i j k : Int) (x y z : ByteArray) (w : World) (es : Array Event) : (Instr.buildSlice 35 3 #[(0, .agg #[.int .i64 i, .string x]), (1, .agg #[.int .i64 j, .string y]), (2, .agg #[.int .i64 k, .string z])]).events Try.prog w es = es := by
  obtain ⟨it, hit, h1, h2, _⟩ := reInfo
  simp [Instr.buildSlice, go_sem, sizeOf, typeInfo, zeroValue, hit, h1, h2]
set_option maxRecDepth 100000 in
set_option maxHeartbeats 2000000 in
/-- Behind sched.Run, to the call of same. -/
theorem a_same {u : Value} (cs : List Frame) (w : World) (hF : Kn Vn W [] w) (T : Array Value) (hT : T.size = 22) :
    Goes Try.prog mn (Ext Vn) (HDq (Cx0 Sh)) (fun g w => ∃ sb T, (T.size = 22 ∧ T[14]? = some (.bool true) ∧ T[15]? = some u ∧ T[19]? = some (.slice (some ⟨sb, 0, none⟩) 3 3)) ∧ g = G (fAw T (.inRegion ops9b [8, 9, 10] :: .code .ret :: [])) cs ∧ Kn Vn W [(sb, Obj.cells #[.int .i64 1, .string strC, .int .i64 0, .string strA, .int .i64 0, .string strB] 41 (0, 0))] w) 30
      (G ((base 9).at (Act.put ⟨T, []⟩ ((ops9a[5]?).bind (·.dst)) (.tuple #[u, .int .i64 0])) (.inRegion ops9a [6, 7, 8, 9, 10] :: .code (rt (rt body9)) :: [])) cs) w := by
  obtain ⟨v0, v1, v2, v3, v4, v5, v6, v7, v8, v9, v10, v11, v12, v13, v14, v15, v16, v17, v18, v19, v20, v21, rfl⟩ := arr22 T hT
  simp only [fAw, ops9a, ops9b, body9, inner, rt, lf, opsOf, Try.f9, Option.getD_some]
  walk_nrm
  refine Goes.step rfl (fun w hr => ?_)
  replace hF := (fun h r => Kn.rl (fun _ _ h => h) h r) hF hr
  clear hr
  refine goes_oper_k rfl rfl (by k_ne) (fun K hK => ?_)
  go_simp
  refine hK _ _ ⟨?_, ?_⟩
  · rw [listed_nil (by simp [go_sem])]; exact hdq_idle _ _
  clear hK K
  try walk_nrm
  refine Goes.step rfl (fun w hr => ?_)
  replace hF := (fun h r => Kn.rl (fun _ _ h => h) h r) hF hr
  clear hr
  refine goes_oper_k rfl rfl (by k_ne) (fun K hK => ?_)
  go_simp
  refine hK _ _ ⟨?_, ?_⟩
  · rw [listed_nil (by simp [go_sem])]; exact hdq_idle _ _
  clear hK K
  try walk_nrm
  refine Goes.step rfl (fun w hr => ?_)
  replace hF := (fun h r => Kn.rl (fun _ _ h => h) h r) hF hr
  clear hr
  refine goes_oper_k rfl rfl (by k_ne) (fun K hK => ?_)
  go_simp
  refine hK _ _ ⟨?_, ?_⟩
  · rw [listed_nil (by simp [go_sem])]; exact hdq_idle _ _
  clear hK K
  try walk_nrm
  refine Goes.step rfl (fun w hr => ?_)
  replace hF := (fun h r => Kn.rl (fun _ _ h => h) h r) hF hr
  clear hr
  refine goes_oper_k rfl rfl (by k_ne) (fun K hK => ?_)
  go_simp
  refine hK _ _ ⟨?_, ?_⟩
  · rw [listed_nil (by simp [go_sem])]; exact hdq_idle _ _
  clear hK K
  try walk_nrm
  refine Goes.step rfl (fun w hr => ?_)
  replace hF := (fun h r => Kn.rl (fun _ _ h => h) h r) hF hr
  clear hr
  refine goes_oper_k rfl rfl (by k_ne) (fun K hK => ?_)
  go_simp
  refine hK _ _ ⟨?_, ?_⟩
  · rw [listed_nil (by simp [go_sem])]; exact hdq_idle _ _
  clear hK K
  try walk_nrm
  refine Goes.step rfl (fun w hr => ?_)
  replace hF := (fun h r => Kn.rl (fun _ _ h => h) h r) hF hr
  clear hr
  rw [stepG_region_end]
  simp only [goes_go]
  refine ⟨hdq_idle _ _, ?_⟩
  refine Goes.step rfl (fun w hr => ?_)
  replace hF := (fun h r => Kn.rl (fun _ _ h => h) h r) hF hr
  clear hr
  rw [stepG_seq]
  simp only [goes_go]
  refine ⟨hdq_idle _ _, ?_⟩
  refine Goes.step rfl (fun w hr => ?_)
  replace hF := (fun h r => Kn.rl (fun _ _ h => h) h r) hF hr
  clear hr
  rw [stepG_region]
  simp only [goes_go, List.size_toArray, List.length_cons, List.length_nil, Nat.reduceAdd, Nat.zero_add, List.range, List.range.loop]
  refine ⟨hdq_idle _ _, ?_⟩
  refine Goes.step rfl (fun w hr => ?_)
  replace hF := (fun h r => Kn.rl (fun _ _ h => h) h r) hF hr
  clear hr
  refine goes_oper_k rfl rfl (by k_ne) (fun K hK => ?_)
  go_simp
  refine hK _ _ ⟨?_, ?_⟩
  · rw [listed_nil (by simp [go_sem])]; exact hdq_idle _ _
  clear hK K
  try walk_nrm
  refine Goes.step rfl (fun w hr => ?_)
  replace hF := (fun h r => Kn.rl (fun _ _ h => h) h r) hF hr
  clear hr
  refine goes_oper_k rfl rfl (by k_ne) (fun K hK => ?_)
  go_simp
  refine hK _ _ ⟨?_, ?_⟩
  · rw [listed_nil (by simp [go_sem, *])]; exact hdq_idle _ _
  clear hK K
  try walk_nrm
  refine Goes.step rfl (fun w hr => ?_)
  replace hF := (fun h r => Kn.rl (fun _ _ h => h) h r) hF hr
  clear hr
  refine goes_oper_k rfl rfl (by k_ne) (fun K hK => ?_)
  go_simp
  refine hK _ _ ⟨?_, ?_⟩
  · rw [listed_nil (by simp [go_sem])]; exact hdq_idle _ _
  clear hK K
  try walk_nrm
  refine Goes.step rfl (fun w hr => ?_)
  replace hF := (fun h r => Kn.rl (fun _ _ h => h) h r) hF hr
  clear hr
  refine goes_oper_k rfl rfl (by k_ne) (fun K hK => ?_)
  go_simp
  refine hK _ _ ⟨?_, ?_⟩
  · rw [listed_nil (by simp [go_sem])]; exact hdq_idle _ _
  clear hK K
  try walk_nrm
  refine Goes.step rfl (fun w hr => ?_)
  replace hF := (fun h r => Kn.rl (fun _ _ h => h) h r) hF hr
  clear hr
  have hm := bldR 1 strC
  have hm' := bldRE 1 strC
  refine goes_oper_k rfl rfl (by k_ne) (fun K hK => ?_)
  go_simp
  refine hK _ _ ⟨?_, ?_⟩
  · rw [listed_nil (by simp [go_sem, *])]; exact hdq_idle _ _
  clear hK K hm hm'
  try walk_nrm
  refine Goes.step rfl (fun w hr => ?_)
  replace hF := (fun h r => Kn.rl (fun _ _ h => h) h r) hF hr
  clear hr
  have hm := bldR 0 strA
  have hm' := bldRE 0 strA
  refine goes_oper_k rfl rfl (by k_ne) (fun K hK => ?_)
  go_simp
  refine hK _ _ ⟨?_, ?_⟩
  · rw [listed_nil (by simp [go_sem, *])]; exact hdq_idle _ _
  clear hK K hm hm'
  try walk_nrm
  refine Goes.step rfl (fun w hr => ?_)
  replace hF := (fun h r => Kn.rl (fun _ _ h => h) h r) hF hr
  clear hr
  have hm := bldR 0 strB
  have hm' := bldRE 0 strB
  refine goes_oper_k rfl rfl (by k_ne) (fun K hK => ?_)
  go_simp
  refine hK _ _ ⟨?_, ?_⟩
  · rw [listed_nil (by simp [go_sem, *])]; exact hdq_idle _ _
  clear hK K hm hm'
  try walk_nrm
  refine Goes.step rfl (fun w hr => ?_)
  replace hF := (fun h r => Kn.rl (fun _ _ h => h) h r) hF hr
  clear hr
  have hm := bR3 1 0 0 strC strA strB
  have hm' := bR3E 1 0 0 strC strA strB
  refine goes_oper_k rfl rfl (by k_ne) (fun K hK => ?_)
  go_simp
  refine hK _ _ ⟨?_, ?_⟩
  · rw [listed_nil (by simp [go_sem, *])]
    exact al_hd (by simp)
  clear hK K
  try walk_nrm
  clear hm hm'
  replace hF := hF.alloc (Obj.cells #[.int .i64 1, .string strC, .int .i64 0, .string strA, .int .i64 0, .string strB] 41 (0, 0))
  generalize w.heap.size = sb at *
  generalize w.alloc (Obj.cells #[.int .i64 1, .string strC, .int .i64 0, .string strA, .int .i64 0, .string strB] 41 (0, 0)) = w at *
  refine Goes.stop (fun w hr => ⟨sb, _, ⟨?_, ?_, ?_, ?_⟩, rfl, hF.rl (fun _ _ h => h) hr⟩) <;> rfl
set_option maxRecDepth 100000 in
set_option maxHeartbeats 2000000 in
/-- Through same, and out. -/
theorem a_out {w : World} (hrl : ∀ w w', Q w → Ext Vn w w' → Q w') {sb n c kc : Nat} {a : Option Addr} (hF : Q w) {b₀ : Frame} {a₀ : Act} {ops : Array Oper} {j : Nat} {rest : List Nat} {kk : List Item} (cs : List Frame) (T : Array Value) (hT : T.size = 22) (h14 : T[14]? = some (.bool true)) (h15 : T[15]? = some (.slice a n c)) (h19 : T[19]? = some (.slice (some ⟨sb, 0, none⟩) 3 3))
    (hkc : CallsC Try.prog mn (Ext Vn) (HDq (Cx0 Sh)) 12 #[.slice a n c, .slice (some ⟨sb, 0, none⟩) 3 3] kc w (fun r w' => r = .bool true ∧ Q w')) :
    Goes Try.prog mn (Ext Vn) (HDq (Cx0 Sh)) (fun g w => g = G (b₀.at (a₀.put ((ops[j]?).bind (·.dst)) (.bool true)) (.inRegion ops rest :: kk)) cs ∧ Q w) (20 + kc + 3)
      (G (fAw T (.inRegion ops9b [8, 9, 10] :: .code .ret :: [])) (b₀.at a₀ (.inRegion ops (j :: rest) :: kk) :: cs)) w := by
  obtain ⟨v0, v1, v2, v3, v4, v5, v6, v7, v8, v9, v10, v11, v12, v13, v14, v15, v16, v17, v18, v19, v20, v21, rfl⟩ := arr22 T hT
  simp only [List.getElem?_toArray, List.getElem?_cons_zero, List.getElem?_cons_succ, Option.some.injEq] at h14 h15 h19
  subst h14
  subst h15
  subst h19
  simp only [fAw, ops9b, body9, inner, rt, lf, opsOf, Try.f9, Option.getD_some]
  refine Goes.call (hdq_terms (Cx0 Sh) Vn) (f := 12) (args := #[.tmp 15, .tmp 19]) (ats := #[28, 35]) rfl rfl (by k_ne) rfl (by simp only [List.map_toArray, List.map_cons, List.map_nil, Act.eval]; exact hkc) (fun r w hv => ?_)
  clear hF hkc
  obtain ⟨rfl, hF⟩ := hv
  try walk_nrm
  refine Goes.step rfl (fun w hr => ?_)
  replace hF := (hrl _ _) hF hr
  clear hr
  refine goes_oper_k rfl rfl (by k_ne) (fun K hK => ?_)
  go_simp
  refine hK _ _ ⟨?_, ?_⟩
  · rw [listed_nil (by simp [go_sem])]; exact hdq_idle _ _
  clear hK K
  try walk_nrm
  refine Goes.step rfl (fun w hr => ?_)
  replace hF := (hrl _ _) hF hr
  clear hr
  refine goes_oper_k rfl rfl (by k_ne) (fun K hK => ?_)
  go_simp
  refine hK _ _ ⟨?_, ?_⟩
  · rw [listed_nil (by simp [go_sem])]; exact hdq_idle _ _
  clear hK K
  try walk_nrm
  refine Goes.step rfl (fun w hr => ?_)
  replace hF := (hrl _ _) hF hr
  clear hr
  rw [stepG_region_end]
  simp only [goes_go]
  refine ⟨hdq_idle _ _, ?_⟩
  refine Goes.step rfl (fun w hr => ?_)
  replace hF := (hrl _ _) hF hr
  clear hr
  rw [stepG_ret']
  simp only [goes_go]
  refine ⟨hdq_idle _ _, ?_⟩
  refine Goes.step rfl (fun w hr => ?_)
  replace hF := (hrl _ _) hF hr
  clear hr
  refine goes_leave1 rfl rfl Try.func9 rfl ⟨hdq_idle _ _, ?_⟩
  exact Goes.stop fun w hr => ⟨rfl, hrl _ _ hF hr⟩
end
end

/-! ### NwPl -/
section
set_option linter.unusedSimpArgs false
open Go Go.Conc Go.RowKit Go.ConcR.Gen Cw
open Go.ConcN (sumTo upd upd_same upd_ne)

section
variable {W : World} {FV : Nat → Prop} {us : List Value} {L : List (List ByteArray)} {n : Nat}
/-- How many notes a task has said. -/
def locN (s : Sst (notesT W FV us L)) (k : Nat) : Nat := s.loc k
/-- How the two states agree about the tasks from number i on. -/
structure RelF (L : List (List ByteArray)) (n i : Nat) (s : Sst (notesT W FV us L)) (A : List Nat) (E : List (Int × ByteArray)) : Prop where
  ev : s.E = E
  len : A.length = n
  go : ∀ k, i ≤ k → k < n → s.en k = false → A[k]? = some (locN s k) ∧ locN s k ≤ (Sk L k).length
  done : ∀ k, i ≤ k → k < n → s.en k = true → ∃ x, A[k]? = some x ∧ (Sk L k).length < x
theorem step_some {s : Sst (notesT W FV us L)} {k : Nat} {x : ByteArray} (he : s.en k = false) (hx : (Sk L k)[locN s k]? = some x) : (notesT W FV us L).step k s = ⟨s.en, upd s.loc k (locN s k + 1 : Nat), s.m, s.E ++ [((k : Int), x)]⟩ := by
  have hn : (notesT W FV us L).next k (s.loc k) s.m = (s.m, some (x, (locN s k + 1 : Nat))) := by
    change (match (Sk L k)[locN s k]? with | some s' => (s.m, some (s', locN s k + 1)) | none => (s.m, none)) = _
    rw [hx]
  unfold Tasks.step
  rw [he, hn]
  rfl
theorem step_none {s : Sst (notesT W FV us L)} {k : Nat} (he : s.en k = false) (hx : (Sk L k)[locN s k]? = none) : (notesT W FV us L).step k s = ⟨upd s.en k true, s.loc, s.m, s.E⟩ := by
  have hn : (notesT W FV us L).next k (s.loc k) s.m = (s.m, none) := by
    change (match (Sk L k)[locN s k]? with | some s' => (s.m, some (s', locN s k + 1)) | none => (s.m, none)) = _
    rw [hx]
    rfl
  unfold Tasks.step
  rw [he, hn]
  rfl
theorem locN_upd_same (en : Nat → Bool) (l : Nat → Nat) (k x : Nat) (m : Unit) (E : List (Int × ByteArray)) : locN (⟨en, upd l k x, m, E⟩ : Sst (notesT W FV us L)) k = x := upd_same l k x
theorem locN_upd_ne (en : Nat → Bool) (l : Nat → Nat) {k j : Nat} (x : Nat) (m : Unit) (E : List (Int × ByteArray)) (h : j ≠ k) : locN (⟨en, upd l k x, m, E⟩ : Sst (notesT W FV us L)) j = l j := upd_ne l x h
theorem refStep_some' {A : List Nat} {E : List (Int × ByteArray)} {tt x : Nat} {sx : ByteArray} (hA : A[tt]? = some x) (hs : (Sk L tt)[x]? = some sx) : refStep L (A, E) tt = (A.set tt (x + 1), E ++ [((tt : Int), sx)]) := by
  simp [refStep, List.getD_eq_getElem?_getD, hA, hs]
theorem refStep_none' {A : List Nat} {E : List (Int × ByteArray)} {tt x : Nat} (hA : A[tt]? = some x) (hs : (Sk L tt).length ≤ x) : refStep L (A, E) tt = (A.set tt (x + 1), E) := by
  simp [refStep, List.getD_eq_getElem?_getD, hA, List.getElem?_eq_none hs]
theorem rel_step {i k : Nat} {s : Sst (notesT W FV us L)} {A : List Nat} {E : List (Int × ByteArray)} (h : RelF L n i s A E) (hik : i ≤ k) (hk : k < n) : RelF L n i ((notesT W FV us L).step k s) (refStep L (A, E) k).1 (refStep L (A, E) k).2 := by
  have hkA : k < A.length := by rw [h.len]; exact hk
  cases he : s.en k with
  | true =>
    obtain ⟨x, hx, hlt⟩ := h.done k hik hk he
    rw [step_id he, refStep_none' hx (by omega)]
    refine ⟨h.ev, by simpa using h.len, fun j hj hjn hej => ?_, fun j hj hjn hej => ?_⟩
    · have hne : j ≠ k := fun e => by rw [e, he] at hej; cases hej
      rw [List.getElem?_set_ne (Ne.symm hne)]
      exact h.go j hj hjn hej
    · by_cases hne : j = k
      · subst hne
        exact ⟨x + 1, by simp [hkA], by omega⟩
      · rw [List.getElem?_set_ne (Ne.symm hne)]
        exact h.done j hj hjn hej
  | false =>
    obtain ⟨hA, hle⟩ := h.go k hik hk he
    cases hx : (Sk L k)[locN s k]? with
    | some sx =>
      have hlt := (List.getElem?_eq_some_iff.1 hx).1
      rw [step_some he hx, refStep_some' hA hx]
      refine ⟨by simp only [h.ev], by simpa using h.len, fun j hj hjn hej => ?_, fun j hj hjn hej => ?_⟩
      · by_cases hne : j = k
        · subst hne
          rw [show locN (⟨s.en, upd s.loc j (locN s j + 1 : Nat), s.m, s.E ++ [((j : Int), sx)]⟩ : Sst (notesT W FV us L)) j = locN s j + 1 from upd_same _ _ _]
          exact ⟨by simp [hkA], hlt⟩
        · rw [List.getElem?_set_ne (Ne.symm hne), show locN (⟨s.en, upd s.loc k (locN s k + 1 : Nat), s.m, s.E ++ [((k : Int), sx)]⟩ : Sst (notesT W FV us L)) j = locN s j from upd_ne _ _ hne]
          exact h.go j hj hjn hej
      · have hne : j ≠ k := fun e => by subst e; rw [he] at hej; cases hej
        rw [List.getElem?_set_ne (Ne.symm hne)]
        exact h.done j hj hjn hej
    | none =>
      have hge := List.getElem?_eq_none_iff.1 hx
      rw [step_none he hx, refStep_none' hA hge]
      refine ⟨h.ev, by simpa using h.len, fun j hj hjn hej => ?_, fun j hj hjn hej => ?_⟩
      · have hne : j ≠ k := fun e => by subst e; simp only [upd_same] at hej; cases hej
        simp only [upd_ne _ _ hne] at hej
        rw [List.getElem?_set_ne (Ne.symm hne)]
        exact h.go j hj hjn hej
      · by_cases hne : j = k
        · subst hne
          exact ⟨locN s j + 1, by simp [hkA], by omega⟩
        · simp only [upd_ne _ _ hne] at hej
          rw [List.getElem?_set_ne (Ne.symm hne)]
          exact h.done j hj hjn hej
theorem RelF.up {i : Nat} {s : Sst (notesT W FV us L)} {A : List Nat} {E : List (Int × ByteArray)} (h : RelF L n i s A E) : RelF L n (i + 1) s A E := ⟨h.ev, h.len, fun k hk => h.go k (by omega), fun k hk => h.done k (by omega)⟩
theorem rel_picks : ∀ (ps : List Nat) (s : Sst (notesT W FV us L)) (A : List Nat) (E : List (Int × ByteArray)), (∀ k ∈ ps, k < n) → RelF L n 0 s A E → RelF L n 0 (ps.foldl (fun s k => (notesT W FV us L).step k s) s) (ps.foldl (refStep L) (A, E)).1 (ps.foldl (refStep L) (A, E)).2
  | [], _, _, _, _, h => h
  | k :: ps, s, A, E, hk, h => by
    have h1 := rel_step h (Nat.zero_le k) (hk k (by simp))
    exact rel_picks ps _ _ _ (fun j hj => hk j (by simp [hj])) h1
theorem rel_run {k : Nat} (hk : k < n) : ∀ (d : Nat) (s : Sst (notesT W FV us L)) (A : List Nat) (E : List (Int × ByteArray)), s.en k = false → (Sk L k).length - locN s k = d → RelF L n k s A E →
    RelF L n (k + 1) (itr ((notesT W FV us L).step k) (d + 1) s) (itr (fun s => refStep L s k) d (A, E)).1 (itr (fun s => refStep L s k) d (A, E)).2
  | 0, s, A, E, he, hd, h => by
    obtain ⟨hA, hle⟩ := h.go k (Nat.le_refl k) hk he
    have hx : (Sk L k)[locN s k]? = none := List.getElem?_eq_none (by omega)
    rw [itr, itr, itr, step_none he hx]
    refine ⟨h.ev, h.len, fun j hj hjn hej => ?_, fun j hj hjn hej => ?_⟩
    · have hne : j ≠ k := by omega
      simp only [upd_ne _ _ hne] at hej
      exact h.go j (by omega) hjn hej
    · have hne : j ≠ k := by omega
      simp only [upd_ne _ _ hne] at hej
      exact h.done j (by omega) hjn hej
  | d + 1, s, A, E, he, hd, h => by
    have hlt : locN s k < (Sk L k).length := by omega
    obtain ⟨sx, hx⟩ : ∃ sx, (Sk L k)[locN s k]? = some sx := ⟨_, List.getElem?_eq_getElem hlt⟩
    have h1 := rel_step h (Nat.le_refl k) hk
    rw [itr, show itr (fun s => refStep L s k) (d + 1) (A, E) = itr (fun s => refStep L s k) d (refStep L (A, E) k) from rfl]
    have h2 := step_some he hx
    refine rel_run hk d _ _ _ ?_ ?_ h1
    · rw [h2]; exact he
    · rw [h2, show locN (⟨s.en, upd s.loc k (locN s k + 1 : Nat), s.m, s.E ++ [((k : Int), sx)]⟩ : Sst (notesT W FV us L)) k = locN s k + 1 from upd_same _ _ _]
      omega
theorem rel_drain {k : Nat} (hk : k < n) {s : Sst (notesT W FV us L)} {A : List Nat} {E : List (Int × ByteArray)} (h : RelF L n k s A E) : RelF L n (k + 1) ((notesT W FV us L).drain k s) (refDrain L (A, E) k).1 (refDrain L (A, E) k).2 := by
  unfold Tasks.drain refDrain
  cases he : s.en k with
  | true =>
    obtain ⟨x, hx, hlt⟩ := h.done k (Nat.le_refl k) hk he
    rw [itr_id (step_id he), show (Sk L k).length - (A, E).1.getD k 0 = 0 by simp [List.getD_eq_getElem?_getD, hx]; omega]
    exact h.up
  | false =>
    obtain ⟨hA, hle⟩ := h.go k (Nat.le_refl k) hk he
    rw [show (A, E).1.getD k 0 = locN s k by simp [List.getD_eq_getElem?_getD, hA]]
    exact rel_run hk _ s A E he rfl h
theorem rel_drains : ∀ (d k : Nat), k + d = n → ∀ (s : Sst (notesT W FV us L)) (A : List Nat) (E : List (Int × ByteArray)), RelF L n k s A E →
    ((notesT W FV us L).drains (List.range' k d) s).E = ((List.range' k d).foldl (refDrain L) (A, E)).2
  | 0, _, _, s, A, E, h => h.ev
  | d + 1, k, hd, s, A, E, h => by
    rw [List.range'_succ, List.foldl_cons]
    exact rel_drains d (k + 1) (by omega) _ _ _ (rel_drain (by omega) h)
/-- THE EVENTS ARE THE DOCUMENT's. -/
theorem fin_ref {ps : List Nat} (hl : L.length = n) (hp : ∀ k ∈ ps, k < n) : ((notesT W FV us L).fin () n ps).E = refRun L ps := by
  have h0 : RelF L n 0 ((notesT W FV us L).s0 ()) (List.replicate n 0) [] := by
    refine ⟨rfl, by simp, fun k _ hk _ => ?_, fun k _ _ h => by cases h⟩
    exact ⟨by show (List.replicate n 0)[k]? = some 0; simp [hk], Nat.zero_le _⟩
  have h1 := rel_picks ps _ _ _ hp h0
  have h2 := rel_drains n 0 (by omega) _ _ _ h1
  unfold Tasks.fin refRun
  rw [h2, hl, ← List.range_eq_range']
end
end
end Go.Proofs.Ytggfcdhkgldbfaa
