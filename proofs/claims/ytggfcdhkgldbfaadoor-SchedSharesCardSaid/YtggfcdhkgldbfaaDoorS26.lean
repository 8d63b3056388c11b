/-
  PARTS of a claim, merged by segs.py: CwC2, CwIta, CwGv.
-/
import Derived.Test.YtggfcdhkgldbfaaDoorS25
import Derived.Test.YtggfcdhkgldbfaaDoorS09
import Derived.Laws.Strings2
import Derived.Laws.Slices
namespace Go.Proofs.YtggfcdhkgldbfaaDoor
set_option linter.unusedSimpArgs false
set_option linter.unusedVariables false

/-! ### CwC2 -/
section
set_option linter.unusedSimpArgs false
open Go Go.Conc Go.RowKit Go.ConcR.Gen Cw

section
variable {Sh : Loc → Prop} {W w w' : World} {main : Bool}
theorem ext_grown (h : Ext Vn W w) {row : Option Nat} (hg : w.grownBy w' row) (hrow : ∀ g, row = some g → W.heap.size ≤ g) : Ext Vn W w' :=
  ⟨Nat.le_trans h.size hg.size, fun b hb _ => (hg.block b (Nat.lt_of_lt_of_le hb h.size) (fun e => by have := hrow b e.symm; omega)).trans (h.same b hb id), hg.tape.trans h.tape, hg.os.trans h.os, hg.output.trans h.output⟩
theorem ext_alloc (h : Ext Vn W w) (o : Obj) : Ext Vn W (w.alloc o) := h.trans (Ext.alloc Vn w o)
theorem floor0 (hS : ShOk Sh W) : Floor (Cx0 Sh) Vn W.heap.size :=
  ⟨fun a h => h.elim, fun c h => h.elim, fun o => o.elim, fun a h => by obtain ⟨_, _, hw⟩ := hS a h; exact (Array.getElem?_eq_some_iff.1 hw).1, fun b h => h.elim, fun b h => h.elim⟩
theorem nobox (b : Nat) : ¬ BoxAt (Cx0 Sh) w b := fun ⟨_, _, _, h, _⟩ => h
/-- A block is made. -/
theorem al_hd {o : Obj} {es : Array Event} (hes : ∀ e ∈ es, e = ⟨.mark .noRoom, false, true⟩) : HDq (Cx0 Sh) w (w.alloc o) es := hdq_alloc (fun _ h => h.elim) (fun _ h => h.elim) (fun o => o.elim) hes
/-- A cell of the call's own is written. -/
theorem wr_own (hS : ShOk Sh W) {a : Addr} {v : Value} {es : Array Event} (hb : W.heap.size ≤ a.block) (hlt : a.block < w.heap.size) (hes : ∀ e ∈ es, e = ⟨.cell a, true, false⟩) : HDq (Cx0 Sh) w (w.setCell a v) es :=
  ((floor0 hS).ok hb).write hlt (nobox _) hes
/-- A cell of the call's own is read. -/
theorem rd_own (hS : ShOk Sh W) {a : Addr} {es : Array Event} (hb : W.heap.size ≤ a.block) (hlt : a.block < w.heap.size) (hes : ∀ e ∈ es, e = ⟨.cell a, false, false⟩) : HDq (Cx0 Sh) w w es :=
  hdq_read fun e he => ⟨a, hes e he, hlt, ((floor0 hS).ok hb).sh a rfl⟩

theorem news_at (w : World) (l : Array Value) (ty : TypeId) (news : List Value) (h : news = l.toList) : ∀ (j : Nat) (u : Value), news[j]? = some u → (w.alloc (.cells l ty)).cell? ((⟨w.heap.size, 0, none⟩ : Addr).add j) = some u := by
  subst h
  intro j u hu
  have := heap_alloc_new w (.cells l ty)
  have hu' : l[j]? = some u := by simpa using hu
  have e : (⟨w.heap.size, 0, none⟩ : Addr).add j = ⟨w.heap.size, j, none⟩ := by
    rcases Nat.eq_zero_or_pos j with rfl | hj
    · simp [Addr.add]
    · simp [Addr.add, Nat.ne_of_gt hj]
  rw [e]
  unfold World.cell?
  simp only [this]
  exact hu'
/-- An append to a row of the call's own. -/
theorem opsC_append {P : Program} (hS : ShOk Sh W) {fn : FuncId} {Q : Exit → Act → World → Prop} {a : Act} {ops : Array Oper} {i : Nat} {rest : List Nat} {o : Oper} {N : Nat}
    (ho : ops[i]? = some o) (hw : Region.wanted o (yielded ops a.tmps) = true) (s x : Operand) (t : TypeId) (hop : o.op = .call { callee := .builtin .append, args := #[s, x], argTypes := #[t, t] })
    {e : TypeId} {info : TypeInfo} {z : Value} {size bytes : Nat} (ht : P.underlying t = some (.slice e)) (hi : P.info? e = some info) (hz : info.zero = some z) (hsize : info.size = size) (hby : info.bytes = bytes) (hzs : z.cells.size = size) (hsz : 0 < size)
    {v : Value} {n : Nat} {xs : List Value} (hs : a.eval s = v) {ad : Addr} {m c : Nat} {news : List Value} (hx : a.eval x = .slice (some ad) m c) (hm : 0 < m) (hl : news.length = m * size) (h1 : ∀ u ∈ news, u.oneCell' = true) (h63 : n + m ≤ maxLen) (hbytes : (n + m) * bytes ≤ 140737488355328)
    (hF : Ext Vn W w ∧ w.ownsRow W.heap.size e size v n xs) (hnews : ∀ j u, news[j]? = some u → w.cell? (ad.add j) = some u) (had : W.heap.size ≤ ad.block)
    (hnext : ∀ v' w', Ext Vn W w' ∧ w'.ownsRow W.heap.size e size v' (n + m) (xs ++ news) → OpsC P main (Ext Vn) (HDq (Cx0 Sh)) fn ops rest N Q (a.put o.dst v') w') : OpsC P main (Ext Vn) (HDq (Cx0 Sh)) fn ops (i :: rest) (N + 1) Q a w := by
  refine opsC_cons ho hw fun w₁ hR => ?_
  have hE := hF.1.trans hR
  have hown := ownsRow_ext hF.2 hR fun _ _ => id
  replace hnews : ∀ j u, news[j]? = some u → w₁.cell? (ad.add j) = some u := fun j u h => by rw [cell_of_block (hR.same _ (block_of_cell (hnews j u h)) id)]; exact hnews j u h
  have hlad : ad.block < w₁.heap.size := by
    have h0 : 0 < news.length := by rw [hl]; exact Nat.mul_pos hm hsz
    obtain ⟨u, hu⟩ : ∃ u, news[0]? = some u := ⟨_, List.getElem?_eq_getElem h0⟩
    have := block_of_cell (hnews 0 u hu)
    simpa [Addr.add] using this
  obtain ⟨v', w', hr, ho', hg, _⟩ := run_append_own w₁ W.heap.size t o.type e info z size bytes ht hi hz hsize hby hzs hsz v n xs hown ad m c news hl hnews h1 h63 hbytes hE.size
  rw [run_append_op s x t hop hs hx hr, uponK_value]
  have F := floor0 hS
  have hrow : ∀ g, v.ownBlock = some g → W.heap.size ≤ g := fun g hg' => (hown.lt g hg').1
  refine ⟨hdq_grown F hE.size hg (fun g hg' => ⟨F.ok (hrow g hg'), nobox g⟩) fun ev hev => ?_, hnext v' w' ⟨ext_grown hE hg hrow, ho'⟩⟩
  have hm' := mem_listed hev
  rw [events_append_op s x t hop hs hx] at hm'
  rcases events_append_where w₁ W.heap.size t o.type e info z size bytes ht hi hz hsize hby v n xs hown ad m c news hl hnews h1 h63 hbytes ev hm' with ⟨a', h2, h3⟩ | ⟨mk, rfl, hmk⟩
  · refine .inl ⟨a', h2, ?_⟩
    rcases h3 with ⟨h4, h5⟩ | h5
    · exact ⟨by rw [h5]; exact Nat.lt_of_lt_of_le hlad hg.size, (F.ok had).sh _ h5, fun e => by rw [h4] at e; cases e⟩
    · have hlt := (hown.lt _ h5.symm).2
      exact ⟨Nat.lt_of_lt_of_le hlt hg.size, (F.ok (hrow _ h5.symm)).sh _ rfl, fun _ hp => hp.elim (fun h => h) fun x => nobox _ x.2.2⟩
  · exact .inr (by rw [show mk = .noRoom from hmk])

/-- THROUGH A CALL OF A FUNCTION VALUE, by its contract. -/
theorem Goes.callv {P : Program} {R : World → World → Prop} {D : World → World → Array Event → Prop} (T : Terms R D) {b : Frame} {a : Act} {k : List Item} {cs : List Frame} {ops : Array Oper} {i : Nat} {rest : List Nat} {o : Oper} {vo : Operand} {f : FuncId} {cap : Array Value} {args : Array Operand} {ats : Array TypeId}
    {nf m : Nat} {Post : Value → World → Prop} {Stop : Goroutine → World → Prop}
    (ho : ops[i]? = some o) (hw : Region.wanted o (yielded ops a.tmps) = true) (hk : b.kind ≠ .early) (hop : o.op = .call { callee := .value vo, args, argTypes := ats }) (hv : a.eval vo = .func (.func f) #[] cap)
    (hcall : CallsC P main R D f (args.map a.eval ++ cap) nf w Post)
    (hnext : ∀ v w', Post v w' → Goes P main R D Stop m (G (b.at (a.put o.dst v) (.inRegion ops rest :: k)) cs) w') :
    Goes P main R D Stop (m + nf + 3) (G (b.at a (.inRegion ops (i :: rest) :: k)) cs) w := by
  obtain ⟨fn, c, hf, hname, hbody, hwp⟩ := hcall
  have hfin : ∀ v, (b.at a (.inRegion ops (i :: rest) :: k)).finish v = b.at (a.put o.dst v) (.inRegion ops rest :: k) := fun v => by rw [Frame.finish_at, ho]; rfl
  have hleave : ∀ (a' : Act) (w' : World) (todo : List Item), (a'.defers = [] ∧ ∃ v, ResultsC P fn a'.tmps v ∧ Post v w') →
      Goes P main R D Stop (m + 1) (G { (base f).at a' todo with mode := .returning } (b.at a (.inRegion ops (i :: rest) :: k) :: cs)) w' := by
    rintro a' w' todo ⟨hd, v, hr, hp⟩
    refine Goes.step rfl fun w₁ h₁ => ?_
    rw [stepG_leave (b := base f) rfl hd hf (hr w₁).1 (hr w₁).2, hfin]
    exact ⟨T.idle _, (hnext v w' hp).rely T.trans h₁⟩
  have hbodyG : Goes P main R D Stop (m + 2 + nf) (G ((base f).at { tmps := (args.map a.eval ++ cap) ++ Array.replicate (fn.ntmps - (args.map a.eval ++ cap).size) undef, defers := [] } [.code c]) (b.at a (.inRegion ops (i :: rest) :: k) :: cs)) w := by
    refine hwp (base f) [] _ Stop (m + 2) rfl (by simp [base]) fun e a' w' q => ?_
    cases e with
    | normal => exact Goes.step rfl fun w₁ h₁ => by rw [stepG_end]; exact ⟨T.idle _, (hleave a' w' [] q).rely T.trans h₁⟩
    | ret => exact fun todo => (hleave a' w' todo q).more
    | exit id => exact q.elim
    | goto l => exact q.elim
    | panic ch => exact q.elim
    | outgrown => exact q.elim
  have e : m + nf + 3 = (m + 2 + nf) + 1 := by omega
  rw [e]
  exact Goes.step rfl fun w₁ h₁ => goes_callc ho hw hk hop hv hf hname hbody ⟨T.idle _, hbodyG.rely T.trans h₁⟩
theorem opsC_callv {P : Program} {R : World → World → Prop} {D : World → World → Array Event → Prop} (T : Terms R D) {fn : FuncId} {Q : Exit → Act → World → Prop} {a : Act} {ops : Array Oper} {i : Nat} {rest : List Nat} {o : Oper} {vo : Operand} {f : FuncId} {cap : Array Value} {args : Array Operand} {ats : Array TypeId} {nf n : Nat} {Post : Value → World → Prop}
    (ho : ops[i]? = some o) (hw : Region.wanted o (yielded ops a.tmps) = true) (hop : o.op = .call { callee := .value vo, args, argTypes := ats }) (hv : a.eval vo = .func (.func f) #[] cap)
    (hcall : CallsC P main R D f (args.map a.eval ++ cap) nf w Post) (hnext : ∀ v w', Post v w' → OpsC P main R D fn ops rest n Q (a.put o.dst v) w') : OpsC P main R D fn ops (i :: rest) (n + nf + 3) Q a w := by
  intro b k cs Stop m hb hk hc
  have := Goes.callv (Stop := Stop) (m := m + n) (b := b) (k := k) (cs := cs) T ho hw hk hop hv hcall fun v w' hp => hnext v w' hp b k cs Stop m hb hk hc
  exact this.mono (by omega)
end
end

/-! ### CwIta -/
section
set_option linter.unusedSimpArgs false
open Go Go.Conc Go.RowKit Go.ConcR.Gen Cw

theorem sl_E (S : ByteArray) (i j : Int) (h0 : 0 ≤ i) (h1 : i ≤ j) (h2 : j ≤ S.size) (w : World) (es : Array Event) : (Instr.sliceAt 9 (.string S) (some (.int .i64 i)) (some (.int .i64 j)) none).events Tryd.prog w es = es := by
  have h3 : 0 ≤ j := by omega
  have h4 : i.toNat ≤ j.toNat := by omega
  have h5 : j.toNat ≤ S.size := by omega
  have h6 : i ≤ ((j.toNat : Nat) : Int) := by omega
  simp [Instr.sliceAt, Instr.slice, Instr.sliceBounds, Instr.sliceBound, asIntOf, go_sem, run_underlying Tryd.underlying9, h0, h1, h2, h3, h4, h5, h6]
  intro h
  omega
set_option maxRecDepth 100000 in
set_option maxHeartbeats 2000000 in
theorem c_small (n : Nat) (hn : n < 100) : ∃ (k : Nat) (s : ByteArray), ∀ (main : Bool) (R : World → World → Prop) (D : World → World → Array Event → Prop) (_ : Terms R D) (Q : World → Prop) (_ : ∀ w w', Q w → R w w' → Q w') (w : World), Q w → CallsC Tryd.prog main R D 51 #[.int .i64 n] k w (fun r w' => r = .string s ∧ Q w') := by
  by_cases h10 : n < 10
  · co_apply Exists.intro
    co_apply Exists.intro
    intro main R D T Q rl0 w hF
    have rl : ∀ {w w' : World}, Q w → R w w' → Q w' := fun h r => rl0 _ _ h r
    co_apply callsC_of_wpC Tryd.func51 (by rfl) rfl
    simp only [Tryd.ntmps51, List.size_toArray, List.length_cons, List.length_nil, Nat.reduceAdd, Nat.reduceSub, Array.replicate_succ, Array.replicate_zero, List.push_toArray, List.append_toArray, List.nil_append, List.cons_append]
    have hw1 : IntKind.i64.wrap ((n : Int) + 1) = ((n + 1 : Nat) : Int) := by rw [IntKind.wrap_i64]; omega
    co_apply wpC_seq T
    co_reg T
    co_op rl hF (co_quiet T)
    co_apply opsC_nil T
    co_then
    co_apply wpC_seq T (n₂ := 0)
    co_apply wpC_seq T
    co_reg T
    co_op rl hF (co_quiet T)
    co_op rl hF (co_quiet T)
    co_apply opsC_nil T
    co_then
    co_apply wpC_cond T (t := true)
    · simp [Act.eval]; omega
    simp only [if_true, reduceIte]
    co_apply wpC_seq T
    co_reg T
    co_op rl hF (co_quiet T)
    co_op rl hF (co_quiet T)
    co_op rl hF (co_quiet T)
    try simp only [hw1]
    co_opw rl hF (have hu := Tryd.underlying9; have hbs : ∀ a : Array UInt8, (ByteArray.mk a).size = a.size := (fun _ => rfl); have h1 : (n : Int) ≤ (n : Int) + 1 := (by omega); have h2 : (n : Int) + 1 ≤ 36 := (by omega); have h3 : ((n : Int) + 1).toNat = n + 1 := (by omega); have h4 : n + 1 ≤ 36 := (by omega); have h5 : ¬ ((n : Int) < 0) := (by omega); have h6 : (0 : Int) ≤ n := (by omega)) (rw [listed_nil (by simp [go_sem, *]; exact sl_E _ _ _ (by omega) (by omega) (by show _ ≤ ((36 : Nat) : Int); omega) _ _)]; exact Terms.idle T _)
    co_op rl hF (co_quiet T)
    co_apply opsC_nil T
    co_then
    co_apply wpC_ret T
    try co_then
    try co_then
    exact ⟨rfl, _, resultsC_tmp (by rfl) _, rfl, hF⟩
  · co_apply Exists.intro
    co_apply Exists.intro
    intro main R D T Q rl0 w hF
    have rl : ∀ {w w' : World}, Q w → R w w' → Q w' := fun h r => rl0 _ _ h r
    co_apply callsC_of_wpC Tryd.func51 (by rfl) rfl
    simp only [Tryd.ntmps51, List.size_toArray, List.length_cons, List.length_nil, Nat.reduceAdd, Nat.reduceSub, Array.replicate_succ, Array.replicate_zero, List.push_toArray, List.append_toArray, List.nil_append, List.cons_append]
    have hw1 : IntKind.i64.wrap ((n : Int) * 2) = ((n * 2 : Nat) : Int) := by rw [IntKind.wrap_i64]; omega
    have hw2 : IntKind.i64.wrap ((n : Int) * 2 + 2) = (n : Int) * 2 + 2 := by rw [IntKind.wrap_i64]; omega
    co_apply wpC_seq T
    co_reg T
    co_op rl hF (co_quiet T)
    co_apply opsC_nil T
    co_then
    co_apply wpC_seq T
    co_apply wpC_seq T
    co_reg T
    co_op rl hF (co_quiet T)
    co_op rl hF (co_quiet T)
    co_apply opsC_nil T
    co_then
    co_apply wpC_cond T (t := false)
    · simp [Act.eval]; omega
    simp only [if_false, reduceIte, Bool.false_eq_true]
    co_apply wpC_skip T
    co_then
    co_apply wpC_seq T
    co_reg T
    co_op rl hF (co_quiet T)
    co_op rl hF (co_quiet T)
    try simp only [hw1]
    co_op rl hF (co_quiet T)
    co_op rl hF (co_quiet T)
    try simp only [hw1]
    co_op rl hF (co_quiet T)
    try simp only [hw2]
    co_opw rl hF (have hu := Tryd.underlying9; have hbs : ∀ a : Array UInt8, (ByteArray.mk a).size = a.size := (fun _ => rfl); have h1 : (n : Int) * 2 ≤ (n : Int) * 2 + 2 := (by omega); have h2 : (n : Int) * 2 + 2 ≤ 200 := (by omega); have h3 : ((n : Int) * 2 + 2).toNat = n * 2 + 2 := (by omega); have h4 : n * 2 + 2 ≤ 200 := (by omega); have h5 : ((n : Int) * 2).toNat = n * 2 := (by omega); have h6 : (0 : Int) ≤ (n : Int) * 2 := (by omega)) (rw [listed_nil (by simp [go_sem, *]; exact sl_E _ _ _ (by omega) (by omega) (by show _ ≤ ((200 : Nat) : Int); omega) _ _)]; exact Terms.idle T _)
    co_op rl hF (co_quiet T)
    co_apply opsC_nil T
    co_then
    co_apply wpC_ret T
    try co_then
    try co_then
    exact ⟨rfl, _, resultsC_tmp (by rfl) _, rfl, hF⟩
set_option maxRecDepth 100000 in
set_option maxHeartbeats 2000000 in
theorem c_fmt (n : Nat) (hn : n < 100) : ∃ (k : Nat) (s : ByteArray), ∀ (main : Bool) (R : World → World → Prop) (D : World → World → Array Event → Prop) (_ : Terms R D) (Q : World → Prop) (_ : ∀ w w', Q w → R w w' → Q w') (w : World), Q w → CallsC Tryd.prog main R D 45 #[.int .i64 n, .int .i64 10] k w (fun r w' => r = .string s ∧ Q w') := by
  obtain ⟨ks, ss, hk⟩ := c_small n hn
  co_apply Exists.intro
  co_apply Exists.intro
  intro main R D T Q rl0 w hF
  have rl : ∀ {w w' : World}, Q w → R w w' → Q w' := fun h r => rl0 _ _ h r
  co_apply callsC_of_wpC Tryd.func45 (by rfl) rfl
  simp only [Tryd.ntmps45, List.size_toArray, List.length_cons, List.length_nil, Nat.reduceAdd, Nat.reduceSub, Array.replicate_succ, Array.replicate_zero, List.push_toArray, List.append_toArray, List.nil_append, List.cons_append]
  co_apply wpC_seq T
  co_reg T
  co_op rl hF (co_quiet T)
  co_apply opsC_nil T
  co_then
  co_apply wpC_seq T (n₂ := 0)
  co_apply wpC_seq T
  co_reg T
  co_op rl hF (co_quiet T)
  co_op rl hF (co_quiet T)
  co_apply opsC_nil T
  co_then
  co_apply wpC_cond T (t := true)
  · simp [Act.eval]
  simp only [if_true, reduceIte]
  co_apply wpC_seq T (n₂ := 0)
  co_apply wpC_seq T
  co_reg T
  have hd1 : decide (n < 100) = true := decide_eq_true hn
  have hd2 : decide ((n : Int) < 100) = true := decide_eq_true (by omega)
  have hd3 : decide ((0 : Int) ≤ n) = true := decide_eq_true (by omega)
  co_op rl hF (co_quiet T)
  co_op rl hF (co_quiet T)
  try simp only [hd1, hd2, hd3]
  co_op rl hF (co_quiet T)
  co_op rl hF (co_quiet T)
  co_op rl hF (co_quiet T)
  try simp only [hd1, hd2, hd3]
  co_op rl hF (co_quiet T)
  co_apply opsC_nil T
  co_then
  co_apply wpC_cond T (t := true)
  · simp [Act.eval]
  simp only [if_true, reduceIte]
  co_apply wpC_seq T
  co_reg T
  co_op rl hF (co_quiet T)
  co_apply opsC_call T (f := 51) (args := #[.tmp 18]) (ats := #[3]) (by rfl) (by rfl) (by rfl) (by simp only [List.map_toArray, List.map_cons, List.map_nil, Act.eval]; exact hk main R D T Q rl0 _ hF)
  rintro v w' ⟨rfl, hF⟩
  try walk_nrm
  co_op rl hF (co_quiet T)
  co_apply opsC_nil T
  co_then
  co_apply wpC_ret T
  try co_then
  try co_then
  exact ⟨rfl, _, resultsC_tmp (by rfl) _, rfl, hF⟩
set_option maxRecDepth 100000 in
set_option maxHeartbeats 2000000 in
theorem c_ita1 (n : Nat) (hn : n < 100) : ∃ (k : Nat) (s : ByteArray), ∀ (main : Bool) (R : World → World → Prop) (D : World → World → Array Event → Prop) (_ : Terms R D) (Q : World → Prop) (_ : ∀ w w', Q w → R w w' → Q w') (w : World), Q w → CallsC Tryd.prog main R D 22 #[.int .i64 n] k w (fun r w' => r = .string s ∧ Q w') := by
  obtain ⟨ks, ss, hk⟩ := c_fmt n hn
  co_apply Exists.intro
  co_apply Exists.intro
  intro main R D T Q rl0 w hF
  have rl : ∀ {w w' : World}, Q w → R w w' → Q w' := fun h r => rl0 _ _ h r
  co_apply callsC_of_wpC Tryd.func22 (by rfl) rfl
  simp only [Tryd.ntmps22, List.size_toArray, List.length_cons, List.length_nil, Nat.reduceAdd, Nat.reduceSub, Array.replicate_succ, Array.replicate_zero, List.push_toArray, List.append_toArray, List.nil_append, List.cons_append]
  co_apply wpC_seq T
  co_reg T
  co_op rl hF (co_quiet T)
  co_apply opsC_nil T
  co_then
  co_apply wpC_seq T
  co_reg T
  co_op rl hF (co_quiet T)
  co_apply opsC_call T (f := 45) (args := #[.tmp 3, .const (.int .i64 10)]) (ats := #[2, 3]) (by rfl) (by rfl) (by rfl) (by simp only [List.map_toArray, List.map_cons, List.map_nil, Act.eval]; exact hk main R D T Q rl0 _ hF)
  rintro v w' ⟨rfl, hF⟩
  try walk_nrm
  co_op rl hF (co_quiet T)
  co_apply opsC_nil T
  co_then
  co_apply wpC_ret T
  try co_then
  try co_then
  exact ⟨rfl, _, resultsC_tmp (by rfl) _, rfl, hF⟩
set_option maxRecDepth 100000 in
set_option maxHeartbeats 2000000 in
theorem c_ita (n : Nat) (hn : n < 100) : ∃ (k : Nat) (s : ByteArray), ∀ (main : Bool) (R : World → World → Prop) (D : World → World → Array Event → Prop) (_ : Terms R D) (Q : World → Prop) (_ : ∀ w w', Q w → R w w' → Q w') (w : World), Q w → CallsC Tryd.prog main R D 8 #[.int .i64 n] k w (fun r w' => r = .string s ∧ Q w') := by
  obtain ⟨ks, ss, hk⟩ := c_ita1 n hn
  co_apply Exists.intro
  co_apply Exists.intro
  intro main R D T Q rl0 w hF
  have rl : ∀ {w w' : World}, Q w → R w w' → Q w' := fun h r => rl0 _ _ h r
  co_apply callsC_of_wpC Tryd.func8 (by rfl) rfl
  simp only [Tryd.ntmps8, List.size_toArray, List.length_cons, List.length_nil, Nat.reduceAdd, Nat.reduceSub, Array.replicate_succ, Array.replicate_zero, List.push_toArray, List.append_toArray, List.nil_append, List.cons_append]
  co_apply wpC_seq T
  co_reg T
  co_op rl hF (co_quiet T)
  co_apply opsC_nil T
  co_then
  co_apply wpC_seq T
  co_reg T
  co_op rl hF (co_quiet T)
  co_apply opsC_call T (f := 22) (args := #[.tmp 3]) (ats := #[3]) (by rfl) (by rfl) (by rfl) (by simp only [List.map_toArray, List.map_cons, List.map_nil, Act.eval]; exact hk main R D T Q rl0 _ hF)
  rintro v w' ⟨rfl, hF⟩
  try walk_nrm
  co_op rl hF (co_quiet T)
  co_apply opsC_nil T
  co_then
  co_apply wpC_ret T
  try co_then
  try co_then
  exact ⟨rfl, _, resultsC_tmp (by rfl) _, rfl, hF⟩
end

/-! ### CwGv -/
section
open Go Go.Conc Go.RowKit Go.ConcR.Gen Cw

def gv (T : Array Value) (i : Nat) : Value := (T[i]?).getD undef
theorem gv_of {T : Array Value} {i : Nat} {v : Value} (h : T[i]? = some v) : gv T i = v := by simp [gv, h]
theorem arr_eq (T : Array Value) (n : Nat) (h : T.size = n) : T = ((List.range n).map (gv T)).toArray := by
  subst h
  apply Array.ext
  · simp
  · intro i h1 h2
    simp [gv, h1]
end
end Go.Proofs.YtggfcdhkgldbfaaDoor
