/-
  PARTS of a claim, merged by segs.py: NwC2, NwTsk.
-/
import Derived.Test.YtggfcdhkgldbfaaN26
namespace Go.Proofs.Ytggfcdhkgldbfaa
set_option linter.unusedSimpArgs false
set_option linter.unusedVariables false

/-! ### NwC2 -/
section
set_option linter.unusedSimpArgs false
open Go Go.Conc Go.RowKit Go.ConcR.Gen Cw

section
variable {Sh : Loc → Prop} {W w w' : World} {main : Bool}
theorem ext_grown (h : Ext Vn W w) {row : Option Nat} (hg : w.grownBy w' row) (hrow : ∀ g, row = some g → W.heap.size ≤ g) : Ext Vn W w' :=
  ⟨Nat.le_trans h.size hg.size, fun b hb _ => (hg.block b (Nat.lt_of_lt_of_le hb h.size) (fun e => by have := hrow b e.symm; omega)).trans (h.same b hb id), hg.tape.trans h.tape, hg.os.trans h.os, hg.output.trans h.output⟩
theorem ext_alloc (h : Ext Vn W w) (o : Obj) : Ext Vn W (w.alloc o) := h.trans (Ext.alloc Vn w o)
theorem floor0 (hS : ShOk Sh W) : Floor (Cx0 Sh) Vn W.heap.size :=
  ⟨fun a h => h.elim, fun c h => h.elim, fun _ o => o.elim, fun a h => by obtain ⟨_, _, hw⟩ := hS a h; exact (Array.getElem?_eq_some_iff.1 hw).1, fun b h => h.elim, fun b h => h.elim⟩
theorem nobox (b : Nat) : ¬ BoxAt (Cx0 Sh) w b := fun ⟨_, _, _, h, _⟩ => h
/-- A block is made. -/
theorem al_hd {o : Obj} {es : Array Event} (hes : ∀ e ∈ es, e = ⟨.mark .noRoom, false, true⟩) : HDq (Cx0 Sh) w (w.alloc o) es := hdq_alloc (fun _ h => h.elim) (fun _ h => h.elim) (fun _ o => o.elim) hes
/-- A cell of the call's own is written. -/
theorem wr_own (hS : ShOk Sh W) {a : Addr} {v : Value} {es : Array Event} (hb : W.heap.size ≤ a.block) (hlt : a.block < w.heap.size) (hes : ∀ e ∈ es, e = ⟨.cell a, true, false⟩) : HDq (Cx0 Sh) w (w.setCell a v) es :=
  ((floor0 hS).ok hb).write hlt (nobox _) hes
/-- A cell of the call's own is read. -/
theorem rd_own (hS : ShOk Sh W) {a : Addr} {es : Array Event} (hb : W.heap.size ≤ a.block) (hlt : a.block < w.heap.size) (hes : ∀ e ∈ es, e = ⟨.cell a, false, false⟩) : HDq (Cx0 Sh) w w es :=
  hdq_read fun e he => ⟨a, hes e he, hlt, ((floor0 hS).ok hb).sh a rfl⟩

theorem news_at (w : World) (l : Array Value) (ty : TypeId) (news : List Value) (h : news = l.toList) : ∀ (j : Nat) (u : Value), news[j]? = some u → (w.alloc (.cells l ty)).cell? ((⟨w.heap.size, 0, none⟩ : Addr).add j) = some u := by
  subst h
  intro j u hu
  have := heap_alloc_new w (.cells l ty)
  have hu' : l[j]? = some u := by simpa using hu
  have e : (⟨w.heap.size, 0, none⟩ : Addr).add j = ⟨w.heap.size, j, none⟩ := by
    rcases Nat.eq_zero_or_pos j with rfl | hj
    · simp [Addr.add]
    · simp [Addr.add, Nat.ne_of_gt hj]
  rw [e]
  unfold World.cell?
  simp only [this]
  exact hu'
/-- An append to a row of the call's own. -/
theorem opsC_append {P : Program} (hS : ShOk Sh W) {fn : FuncId} {Q : Exit → Act → World → Prop} {a : Act} {ops : Array Oper} {i : Nat} {rest : List Nat} {o : Oper} {N : Nat}
    (ho : ops[i]? = some o) (hw : Region.wanted o (yielded ops a.tmps) = true) (s x : Operand) (t : TypeId) (hop : o.op = .call { callee := .builtin .append, args := #[s, x], argTypes := #[t, t] })
    {e : TypeId} {info : TypeInfo} {z : Value} {size bytes : Nat} (ht : P.underlying t = some (.slice e)) (hi : P.info? e = some info) (hz : info.zero = some z) (hsize : info.size = size) (hby : info.bytes = bytes) (hzs : z.cells.size = size) (hsz : 0 < size)
    {v : Value} {n : Nat} {xs : List Value} (hs : a.eval s = v) {ad : Addr} {m c : Nat} {news : List Value} (hx : a.eval x = .slice (some ad) m c) (hm : 0 < m) (hl : news.length = m * size) (h1 : ∀ u ∈ news, u.oneCell' = true) (h63 : n + m ≤ maxLen) (hbytes : (n + m) * bytes ≤ 140737488355328)
    (hF : Ext Vn W w ∧ w.ownsRow W.heap.size e size v n xs) (hnews : ∀ j u, news[j]? = some u → w.cell? (ad.add j) = some u) (had : W.heap.size ≤ ad.block)
    (hnext : ∀ v' w', Ext Vn W w' ∧ w'.ownsRow W.heap.size e size v' (n + m) (xs ++ news) → OpsC P main (Ext Vn) (HDq (Cx0 Sh)) fn ops rest N Q (a.put o.dst v') w') : OpsC P main (Ext Vn) (HDq (Cx0 Sh)) fn ops (i :: rest) (N + 1) Q a w := by
  refine opsC_cons ho hw fun w₁ hR => ?_
  have hE := hF.1.trans hR
  have hown := ownsRow_ext hF.2 hR fun _ _ => id
  replace hnews : ∀ j u, news[j]? = some u → w₁.cell? (ad.add j) = some u := fun j u h => by rw [cell_of_block (hR.same _ (block_of_cell (hnews j u h)) id)]; exact hnews j u h
  have hlad : ad.block < w₁.heap.size := by
    have h0 : 0 < news.length := by rw [hl]; exact Nat.mul_pos hm hsz
    obtain ⟨u, hu⟩ : ∃ u, news[0]? = some u := ⟨_, List.getElem?_eq_getElem h0⟩
    have := block_of_cell (hnews 0 u hu)
    simpa [Addr.add] using this
  obtain ⟨v', w', hr, ho', hg, _⟩ := run_append_own w₁ W.heap.size t o.type e info z size bytes ht hi hz hsize hby hzs hsz v n xs hown ad m c news hl hnews h1 h63 hbytes hE.size
  rw [run_append_op s x t hop hs hx hr, uponK_value]
  have F := floor0 hS
  have hrow : ∀ g, v.ownBlock = some g → W.heap.size ≤ g := fun g hg' => (hown.lt g hg').1
  refine ⟨hdq_grown F hE.size hg (fun g hg' => ⟨F.ok (hrow g hg'), nobox g⟩) fun ev hev => ?_, hnext v' w' ⟨ext_grown hE hg hrow, ho'⟩⟩
  have hm' := mem_listed hev
  rw [events_append_op s x t hop hs hx] at hm'
  rcases events_append_where w₁ W.heap.size t o.type e info z size bytes ht hi hz hsize hby v n xs hown ad m c news hl hnews h1 h63 hbytes ev hm' with ⟨a', h2, h3⟩ | ⟨mk, rfl, hmk⟩
  · refine .inl ⟨a', h2, ?_⟩
    rcases h3 with ⟨h4, h5⟩ | h5
    · exact ⟨by rw [h5]; exact Nat.lt_of_lt_of_le hlad hg.size, (F.ok had).sh _ h5, fun e => by rw [h4] at e; cases e⟩
    · have hlt := (hown.lt _ h5.symm).2
      exact ⟨Nat.lt_of_lt_of_le hlt hg.size, (F.ok (hrow _ h5.symm)).sh _ rfl, fun _ hp => hp.elim (fun h => h) fun x => nobox _ x.2.2⟩
  · exact .inr (by rw [show mk = .noRoom from hmk])

/-- THROUGH A CALL OF A FUNCTION VALUE, by its contract. -/
theorem Goes.callv {P : Program} {R : World → World → Prop} {D : World → World → Array Event → Prop} (T : Terms R D) {b : Frame} {a : Act} {k : List Item} {cs : List Frame} {ops : Array Oper} {i : Nat} {rest : List Nat} {o : Oper} {vo : Operand} {f : FuncId} {cap : Array Value} {args : Array Operand} {ats : Array TypeId}
    {nf m : Nat} {Post : Value → World → Prop} {Stop : Goroutine → World → Prop}
    (ho : ops[i]? = some o) (hw : Region.wanted o (yielded ops a.tmps) = true) (hk : b.kind ≠ .early) (hop : o.op = .call { callee := .value vo, args, argTypes := ats }) (hv : a.eval vo = .func (.func f) #[] cap)
    (hcall : CallsC P main R D f (args.map a.eval ++ cap) nf w Post)
    (hnext : ∀ v w', Post v w' → Goes P main R D Stop m (G (b.at (a.put o.dst v) (.inRegion ops rest :: k)) cs) w') :
    Goes P main R D Stop (m + nf + 3) (G (b.at a (.inRegion ops (i :: rest) :: k)) cs) w := by
  obtain ⟨fn, c, hf, hname, hbody, hwp⟩ := hcall
  have hfin : ∀ v, (b.at a (.inRegion ops (i :: rest) :: k)).finish v = b.at (a.put o.dst v) (.inRegion ops rest :: k) := fun v => by rw [Frame.finish_at, ho]; rfl
  have hleave : ∀ (a' : Act) (w' : World) (todo : List Item), (a'.defers = [] ∧ ∃ v, ResultsC P fn a'.tmps v ∧ Post v w') →
      Goes P main R D Stop (m + 1) (G { (base f).at a' todo with mode := .returning } (b.at a (.inRegion ops (i :: rest) :: k) :: cs)) w' := by
    rintro a' w' todo ⟨hd, v, hr, hp⟩
    refine Goes.step rfl fun w₁ h₁ => ?_
    rw [stepG_leave (b := base f) rfl hd hf (hr w₁).1 (hr w₁).2, hfin]
    exact ⟨T.idle _, (hnext v w' hp).rely T.trans h₁⟩
  have hbodyG : Goes P main R D Stop (m + 2 + nf) (G ((base f).at { tmps := (args.map a.eval ++ cap) ++ Array.replicate (fn.ntmps - (args.map a.eval ++ cap).size) undef, defers := [] } [.code c]) (b.at a (.inRegion ops (i :: rest) :: k) :: cs)) w := by
    refine hwp (base f) [] _ Stop (m + 2) rfl (by simp [base]) fun e a' w' q => ?_
    cases e with
    | normal => exact Goes.step rfl fun w₁ h₁ => by rw [stepG_end]; exact ⟨T.idle _, (hleave a' w' [] q).rely T.trans h₁⟩
    | ret => exact fun todo => (hleave a' w' todo q).more
    | exit id => exact q.elim
    | goto l => exact q.elim
    | panic ch => exact q.elim
    | outgrown => exact q.elim
  have e : m + nf + 3 = (m + 2 + nf) + 1 := by omega
  rw [e]
  exact Goes.step rfl fun w₁ h₁ => goes_callc ho hw hk hop hv hf hname hbody ⟨T.idle _, hbodyG.rely T.trans h₁⟩
theorem opsC_callv {P : Program} {R : World → World → Prop} {D : World → World → Array Event → Prop} (T : Terms R D) {fn : FuncId} {Q : Exit → Act → World → Prop} {a : Act} {ops : Array Oper} {i : Nat} {rest : List Nat} {o : Oper} {vo : Operand} {f : FuncId} {cap : Array Value} {args : Array Operand} {ats : Array TypeId} {nf n : Nat} {Post : Value → World → Prop}
    (ho : ops[i]? = some o) (hw : Region.wanted o (yielded ops a.tmps) = true) (hop : o.op = .call { callee := .value vo, args, argTypes := ats }) (hv : a.eval vo = .func (.func f) #[] cap)
    (hcall : CallsC P main R D f (args.map a.eval ++ cap) nf w Post) (hnext : ∀ v w', Post v w' → OpsC P main R D fn ops rest n Q (a.put o.dst v) w') : OpsC P main R D fn ops (i :: rest) (n + nf + 3) Q a w := by
  intro b k cs Stop m hb hk hc
  have := Goes.callv (Stop := Stop) (m := m + n) (b := b) (k := k) (cs := cs) T ho hw hk hop hv hcall fun v w' hp => hnext v w' hp b k cs Stop m hb hk hc
  exact this.mono (by omega)
end
section
variable {X : Cx} {V : Nat → Prop} {W w w' : World} {main : Bool}
theorem ext_growng (h : Ext V W w) {row : Option Nat} (hg : w.grownBy w' row) (hrow : ∀ g, row = some g → W.heap.size ≤ g) : Ext V W w' :=
  ⟨Nat.le_trans h.size hg.size, fun b hb hv => (hg.block b (Nat.lt_of_lt_of_le hb h.size) (fun e => by have := hrow b e.symm; omega)).trans (h.same b hb hv), hg.tape.trans h.tape, hg.os.trans h.os, hg.output.trans h.output⟩
theorem ext_allocg (h : Ext V W w) (o : Obj) : Ext V W (w.alloc o) := h.trans (Ext.alloc V w o)
/-- A block is made. -/
theorem al_hdg (hS : Wd X V W) (hE : W.heap.size ≤ w.heap.size) {o : Obj} {es : Array Event} (hes : ∀ e ∈ es, e = ⟨.mark .noRoom, false, true⟩) : HDq X w (w.alloc o) es :=
  hdq_alloc (fun a h => Nat.lt_of_lt_of_le (hS.fl.st a h) hE) (fun c h => Nat.lt_of_lt_of_le (hS.fl.ch c h) hE) (fun b h => Nat.lt_of_lt_of_le (hS.fl.wg b h) hE) hes
/-- A cell of the call's own is written. -/
theorem wr_owng (hS : Wd X V W) {a : Addr} {v : Value} {es : Array Event} (hb : W.heap.size ≤ a.block) (hlt : a.block < w.heap.size) (hnb : ∀ cs ty, w.heap[a.block]? = some (.cells cs ty) → ¬ BxW cs ty) (hes : ∀ e ∈ es, e = ⟨.cell a, true, false⟩) : HDq X w (w.setCell a v) es :=
  (hS.fl.ok hb).write hlt (fun ⟨cs, ty, h1, h2, _⟩ => hnb cs ty h1 (hS.bx _ _ h2)) hes
/-- A cell of the call's own is read. -/
theorem rd_owng (hS : Wd X V W) {a : Addr} {es : Array Event} (hb : W.heap.size ≤ a.block) (hlt : a.block < w.heap.size) (hes : ∀ e ∈ es, e = ⟨.cell a, false, false⟩) : HDq X w w es :=
  hdq_read fun e he => ⟨a, hes e he, hlt, (hS.fl.ok hb).sh a rfl⟩
/-- An append to a row of the call's own. -/
theorem opsC_appendg {P : Program} (hS : Wd X V W) {fn : FuncId} {Q : Exit → Act → World → Prop} {a : Act} {ops : Array Oper} {i : Nat} {rest : List Nat} {o : Oper} {N : Nat}
    (ho : ops[i]? = some o) (hw : Region.wanted o (yielded ops a.tmps) = true) (s x : Operand) (t : TypeId) (hop : o.op = .call { callee := .builtin .append, args := #[s, x], argTypes := #[t, t] })
    {e : TypeId} {info : TypeInfo} {z : Value} {size bytes : Nat} (ht : P.underlying t = some (.slice e)) (hi : P.info? e = some info) (hz : info.zero = some z) (hsize : info.size = size) (hby : info.bytes = bytes) (hzs : z.cells.size = size) (hsz : 0 < size)
    {v : Value} {n : Nat} {xs : List Value} (hs : a.eval s = v) {ad : Addr} {m c : Nat} {news : List Value} (hx : a.eval x = .slice (some ad) m c) (hm : 0 < m) (hl : news.length = m * size) (h1 : ∀ u ∈ news, u.oneCell' = true) (h63 : n + m ≤ maxLen) (hbytes : (n + m) * bytes ≤ 140737488355328)
    (hF : Ext V W w ∧ w.ownsRow W.heap.size e size v n xs) (hnews : ∀ j u, news[j]? = some u → w.cell? (ad.add j) = some u) (had : W.heap.size ≤ ad.block) (hnb : ∀ cs, ¬ BxW cs e)
    (hnext : ∀ v' w', Ext V W w' ∧ w'.ownsRow W.heap.size e size v' (n + m) (xs ++ news) → OpsC P main (Ext V) (HDq X) fn ops rest N Q (a.put o.dst v') w') : OpsC P main (Ext V) (HDq X) fn ops (i :: rest) (N + 1) Q a w := by
  refine opsC_cons ho hw fun w₁ hR => ?_
  have hE := hF.1.trans hR
  have hown := ownsRow_ext hF.2 hR fun g hg => hS.own (hF.2.lt g hg).1
  replace hnews : ∀ j u, news[j]? = some u → w₁.cell? (ad.add j) = some u := fun j u h => by rw [cell_of_block (hR.same _ (block_of_cell (hnews j u h)) (hS.own (b := (ad.add j).block) (by first | exact had | (simp only [Addr.add]; split <;> exact had))))]; exact hnews j u h
  have hlad : ad.block < w₁.heap.size := by
    have h0 : 0 < news.length := by rw [hl]; exact Nat.mul_pos hm hsz
    obtain ⟨u, hu⟩ : ∃ u, news[0]? = some u := ⟨_, List.getElem?_eq_getElem h0⟩
    have := block_of_cell (hnews 0 u hu)
    simpa [Addr.add] using this
  obtain ⟨v', w', hr, ho', hg, _⟩ := run_append_own w₁ W.heap.size t o.type e info z size bytes ht hi hz hsize hby hzs hsz v n xs hown ad m c news hl hnews h1 h63 hbytes hE.size
  rw [run_append_op s x t hop hs hx hr, uponK_value]
  have F := hS.fl
  have nobox : ∀ g, v.ownBlock = some g → ¬ BoxAt X w₁ g := fun g hg' hb => by
    obtain ⟨cs, ty, h1, h2, _⟩ := hb
    rcases hown.2 with ⟨rfl, _⟩ | ⟨g', cap, cur, rfl, _, hgg, _⟩
    · cases hg'
    · obtain rfl : g' = g := by simpa [Value.ownBlock] using hg'
      rw [hgg] at h1
      injection (Option.some.inj h1) with e1 e2
      exact hnb cs (by rw [e2]; exact hS.bx _ _ h2)
  have hrow : ∀ g, v.ownBlock = some g → W.heap.size ≤ g := fun g hg' => (hown.lt g hg').1
  refine ⟨hdq_grown F hE.size hg (fun g hg' => ⟨F.ok (hrow g hg'), nobox g hg'⟩) fun ev hev => ?_, hnext v' w' ⟨ext_growng hE hg hrow, ho'⟩⟩
  have hm' := mem_listed hev
  rw [events_append_op s x t hop hs hx] at hm'
  rcases events_append_where w₁ W.heap.size t o.type e info z size bytes ht hi hz hsize hby v n xs hown ad m c news hl hnews h1 h63 hbytes ev hm' with ⟨a', h2, h3⟩ | ⟨mk, rfl, hmk⟩
  · refine .inl ⟨a', h2, ?_⟩
    rcases h3 with ⟨h4, h5⟩ | h5
    · exact ⟨by rw [h5]; exact Nat.lt_of_lt_of_le hlad hg.size, (F.ok had).sh _ h5, fun e => by rw [h4] at e; cases e⟩
    · have hlt := (hown.lt _ h5.symm).2
      exact ⟨Nat.lt_of_lt_of_le hlt hg.size, (F.ok (hrow _ h5.symm)).sh _ rfl, fun _ hp => hp.elim (fun h => (F.ok (hrow _ h5.symm)).st _ rfl h) fun x => nobox _ h5.symm x.2.2⟩
  · exact .inr (by rw [show mk = .noRoom from hmk])
end
end

/-! ### NwTsk -/
section
set_option linter.unusedSimpArgs false
open Go Go.Conc Go.RowKit Go.ConcR.Gen Cw

/-- Values that stand one behind the other. -/
def VRow (w : World) (a : Option Addr) (us : List Value) : Prop := us = [] ∨ ∃ b o, a = some ⟨b, o, none⟩ ∧ ∀ (k : Nat) (u : Value), us[k]? = some u → w.cell? ⟨b, o + k, none⟩ = some u
def IsSl (u : Value) : Prop := ∃ a n c, u = .slice a n c
def ifs (us : List Value) : List Value := us.map fun u => .iface 44 u
theorem tkInfo : ∃ i, Try.prog.info? 50 = some i ∧ i.zero = some .nilIface ∧ i.size = 1 ∧ i.bytes = 16 := by
  have h : (Try.prog.info? 50).map (fun i => (i.zero, i.size, i.bytes)) = some (some .nilIface, 1, 16) := by kernel_rfl
  obtain ⟨i, hi, hb⟩ := Option.map_eq_some_iff.1 h
  simp at hb
  exact ⟨i, hi, hb⟩
theorem bt1 (x : Value) (w : World) : (Instr.buildSlice 32 1 #[(0, .iface 44 x)]).run Try.prog w = .ok (.slice (some ⟨w.heap.size, 0, none⟩) 1 1) (w.alloc (.cells #[.iface 44 x] 50)) := by
  obtain ⟨it, hit, h1, h2, _⟩ := tkInfo
  refine run_buildSlice w _ _ 1 _ _ it _ (by kernel_rfl) hit h1 (by rw [h2]; omega) (by rw [h2]; omega) ?_
  rw [h2]
  kernel_rfl
theorem bt1E (x : Value) (w : World) (es : Array Event) : (Instr.buildSlice 32 1 #[(0, .iface 44 x)]).events Try.prog w es = es := by
  obtain ⟨it, hit, h1, h2, _⟩ := tkInfo
  simp [Instr.buildSlice, go_sem, sizeOf, typeInfo, zeroValue, hit, h1, h2]
theorem mkiE (x : Value) (w : World) (es : Array Event) : (Instr.makeInterface 44 x).events Try.prog w es = es := by
  simp [Instr.makeInterface, go_sem, Try.underlying44]
set_option maxRecDepth 100000 in
set_option maxHeartbeats 2000000 in
theorem c_tasks {X : Cx} {V : Nat → Prop} {W : World} {main : Bool} (hS : Wd X V W) {al : Option Addr} {us : List Value} (lcap : Nat) (hp : VRow W al us) (hpl : us.length ≤ 17179869184) (hx : ∀ u ∈ us, IsSl u) :
    ∃ k, ∀ w, Ext V W w → CallsC Try.prog main (Ext V) (HDq X) 11 #[.slice al us.length lcap] k w (fun r w' => Ext V W w' ∧ w'.ownsRow W.heap.size 50 1 r (ifs us).length (ifs us)) := by
  obtain ⟨it, hit, hz1, hz2, hz3⟩ := tkInfo
  have rl0 : ∀ {w w' : World}, Ext V W w → Ext V w w' → Ext V W w' := fun h r => h.trans r
  have rl : ∀ {u : Value} {l : List Value} {k : Nat} {w w' : World}, (Ext V W w ∧ w.ownsRow W.heap.size 50 1 u k l) → Ext V w w' → (Ext V W w' ∧ w'.ownsRow W.heap.size 50 1 u k l) := fun h r => ⟨h.1.trans r, ownsRow_ext h.2 r fun g hg => hS.own (h.2.lt g hg).1⟩
  rcases hp with hp | ⟨b, o, rfl, hcs⟩
  · have hL0 : us.length ≤ 0 := by rw [hp]; simp
    clear hp
    co_apply Exists.intro
    intro w hF
    co_apply callsC_of_wpC Try.func11 (by rfl) rfl
    simp only [Try.ntmps11, List.size_toArray, List.length_cons, List.length_nil, Nat.reduceAdd, Nat.reduceSub, Array.replicate_succ, Array.replicate_zero, List.push_toArray, List.append_toArray, List.nil_append, List.cons_append]
    co_apply wpC_seq (TTg X V)
    co_reg (TTg X V)
    co_op rl0 hF (co_quiet (TTg X V))
    co_apply opsC_nil (TTg X V)
    co_then
    co_apply wpC_seq (TTg X V)
    co_reg (TTg X V)
    co_op rl0 hF (co_quiet (TTg X V))
    co_apply opsC_nil (TTg X V)
    co_then
    co_apply wpC_seq (TTg X V)
    co_apply wpC_seq (TTg X V)
    co_reg (TTg X V)
    co_op rl0 hF (co_quiet (TTg X V))
    co_op rl0 hF (co_quiet (TTg X V))
    co_op rl0 hF (co_quiet (TTg X V))
    co_apply opsC_nil (TTg X V)
    co_then
    co_apply wpC_block (TTg X V)
    co_apply wpC_loop (TTg X V) (fun a' w' => ∃ (T : Array Value) (i : Nat) (u : Value), a' = ⟨T, []⟩ ∧ T.size = 19 ∧ T[3]? = some (u) ∧ T[6]? = some (.slice al us.length lcap) ∧ T[7]? = some (.int .i64 us.length) ∧ T[8]? = some (.int .i64 i) ∧ i ≤ us.length ∧ Ext V W w' ∧ w'.ownsRow W.heap.size 50 1 u (ifs (us.take i)).length (ifs (us.take i))) (fun a' _ => us.length - slotN a' 8) _ (us.length)
    · exact ⟨_, 0, .slice none 0 0, rfl, rfl, rfl, rfl, rfl, rfl, by omega, hF, by simpa [ifs] using World.ownsRow_nil _ _ _ _⟩
    · simp [slotN]
    clear hF w
    rintro a' w ⟨T, i, u, rfl, hT, h3, h6, h7, h8, hi, hF⟩
    obtain ⟨v0, v1, v2, v3, v4, v5, v6, v7, v8, v9, v10, v11, v12, v13, v14, v15, v16, v17, v18, rfl⟩ := arr19 T hT
    simp only [List.getElem?_toArray, List.getElem?_cons_zero, List.getElem?_cons_succ, Option.some.injEq] at h3 h6 h7 h8
    subst h3
    subst h6
    subst h7
    subst h8
    co_apply wpC_seq (TTg X V)
    co_reg (TTg X V)
    co_op rl hF (co_quiet (TTg X V))
    co_apply opsC_nil (TTg X V)
    co_then
    co_apply wpC_seq (TTg X V) (n₂ := 0)
    co_split (TTg X V) (decide ((i : Int) < (us.length : Int)))
    · intro ht
      exact wpC_absurd (by have : i < us.length := (by simpa using ht); omega)
    · intro ht
      have hil : i = us.length := by have : ¬ i < us.length := (by simpa using ht); omega
      co_apply wpC_exit (TTg X V)
      co_then
      co_apply wpC_seq (TTg X V)
      co_reg (TTg X V)
      co_op rl hF (co_quiet (TTg X V))
      co_op rl hF (co_quiet (TTg X V))
      co_apply opsC_nil (TTg X V)
      co_then
      co_apply wpC_ret (TTg X V)
      try co_then
      refine ⟨rfl, _, resultsC_tmp (by rfl) _, hF.1, ?_⟩
      have h2 := hF.2
      rw [List.take_of_length_le (by omega)] at h2
      exact h2
  · co_apply Exists.intro
    intro w hF
    co_apply callsC_of_wpC Try.func11 (by rfl) rfl
    simp only [Try.ntmps11, List.size_toArray, List.length_cons, List.length_nil, Nat.reduceAdd, Nat.reduceSub, Array.replicate_succ, Array.replicate_zero, List.push_toArray, List.append_toArray, List.nil_append, List.cons_append]
    co_apply wpC_seq (TTg X V)
    co_reg (TTg X V)
    co_op rl0 hF (co_quiet (TTg X V))
    co_apply opsC_nil (TTg X V)
    co_then
    co_apply wpC_seq (TTg X V)
    co_reg (TTg X V)
    co_op rl0 hF (co_quiet (TTg X V))
    co_apply opsC_nil (TTg X V)
    co_then
    co_apply wpC_seq (TTg X V)
    co_apply wpC_seq (TTg X V)
    co_reg (TTg X V)
    co_op rl0 hF (co_quiet (TTg X V))
    co_op rl0 hF (co_quiet (TTg X V))
    co_op rl0 hF (co_quiet (TTg X V))
    co_apply opsC_nil (TTg X V)
    co_then
    co_apply wpC_block (TTg X V)
    co_apply wpC_loop (TTg X V) (fun a' w' => ∃ (T : Array Value) (i : Nat) (u : Value), a' = ⟨T, []⟩ ∧ T.size = 19 ∧ T[3]? = some (u) ∧ T[6]? = some (.slice (some ⟨b, o, none⟩) us.length lcap) ∧ T[7]? = some (.int .i64 us.length) ∧ T[8]? = some (.int .i64 i) ∧ i ≤ us.length ∧ Ext V W w' ∧ w'.ownsRow W.heap.size 50 1 u (ifs (us.take i)).length (ifs (us.take i))) (fun a' _ => us.length - slotN a' 8) _ (us.length)
    · exact ⟨_, 0, .slice none 0 0, rfl, rfl, rfl, rfl, rfl, rfl, by omega, hF, by simpa [ifs] using World.ownsRow_nil _ _ _ _⟩
    · simp [slotN]
    clear hF w
    rintro a' w ⟨T, i, u, rfl, hT, h3, h6, h7, h8, hi, hF⟩
    obtain ⟨v0, v1, v2, v3, v4, v5, v6, v7, v8, v9, v10, v11, v12, v13, v14, v15, v16, v17, v18, rfl⟩ := arr19 T hT
    simp only [List.getElem?_toArray, List.getElem?_cons_zero, List.getElem?_cons_succ, Option.some.injEq] at h3 h6 h7 h8
    subst h3
    subst h6
    subst h7
    subst h8
    co_apply wpC_seq (TTg X V)
    co_reg (TTg X V)
    co_op rl hF (co_quiet (TTg X V))
    co_apply opsC_nil (TTg X V)
    co_then
    co_apply wpC_seq (TTg X V)
    co_split (TTg X V) (decide ((i : Int) < (us.length : Int)))
    · intro ht
      have hil : i < us.length := by simpa using ht
      co_apply wpC_skip (TTg X V)
      co_then
      co_apply wpC_seq (TTg X V)
      co_apply wpC_block (TTg X V)
      co_apply wpC_seq (TTg X V)
      obtain ⟨x, hxi⟩ : ∃ x, us[i]? = some x := ⟨_, List.getElem?_eq_getElem hil⟩
      obtain ⟨ax, nx, cx, hxe⟩ := hx x (List.mem_of_getElem? hxi)
      rw [hxe] at hxi
      clear hxe
      co_reg (TTg X V)
      co_opw rl hF (skip) (co_still (TTg X V))
      co_opw rl hF (have hc := cell_extg hS hF.1 (hcs i _ hxi) (by rfl)) (refine rd_oldg hS hF.1 (hcs i _ hxi) (by rfl) (fun e he => ?_); have hm := mem_listed he; simp [go_sem, *] at hm; exact hm)
      clear hc
      co_op rl hF (co_quiet (TTg X V))
      co_apply opsC_nil (TTg X V)
      co_then
      co_reg (TTg X V)
      co_op rl hF (co_quiet (TTg X V))
      co_op rl hF (co_quiet (TTg X V))
      co_opw rl hF (have hmi := mkiE) (co_still (TTg X V))
      clear hmi
      co_opw rl hF (have hm := bt1 (.slice ax nx cx); have hm' := bt1E (.slice ax nx cx)) (rw [listed_nil (by simp [go_sem, *])]; exact al_hdg hS hF.1.size (by simp))
      have hF2 := And.intro (ext_allocg hF.1 (.cells #[.iface 44 (.slice ax nx cx)] 50)) (hF.2.alloc (.cells #[.iface 44 (.slice ax nx cx)] 50))
      have hln : (ifs (us.take i)).length ≤ us.length := by simp [ifs]; omega
      co_apply opsC_appendg hS (by rfl) (by rfl) (.tmp 12) (.tmp 15) 32 (by rfl) (by kernel_rfl) hit hz1 hz2 hz3 (by rfl) (by omega) (by rfl) (by rfl) (by omega) (news := [.iface 44 (.slice ax nx cx)]) (by rfl) (by simp [Value.oneCell']) (by simp only [maxLen]; omega) (by omega) hF2 (news_at _ _ _ _ (by rfl)) (by exact hF.1.size) (fun cs h => by rcases h with ⟨_, _, e | ⟨e, _⟩⟩ | e <;> cases e)
      clear hF hF2 hm hm'
      intro v' w' hF
      try walk_nrm
      co_op rl hF (co_quiet (TTg X V))
      co_apply opsC_nil (TTg X V)
      co_then
      co_reg (TTg X V)
      co_op rl hF (co_quiet (TTg X V))
      co_op rl hF (co_quiet (TTg X V))
      co_apply opsC_nil (TTg X V)
      co_then
      have hwr : IntKind.i64.wrap ((i : Int) + 1) = ((i + 1 : Nat) : Int) := by rw [IntKind.wrap_i64]; omega
      refine ⟨⟨_, i + 1, _, rfl, rfl, rfl, rfl, rfl, by simp [hwr], by omega, hF.1, ?_⟩, ?_⟩
      · have h2 := hF.2
        rw [List.take_add_one, hxi]
        simpa [ifs] using h2
      · simp [slotN, hwr]; omega
    · intro ht
      have hil : i = us.length := by have : ¬ i < us.length := (by simpa using ht); omega
      co_apply wpC_exit (TTg X V)
      co_then
      co_apply wpC_seq (TTg X V)
      co_reg (TTg X V)
      co_op rl hF (co_quiet (TTg X V))
      co_op rl hF (co_quiet (TTg X V))
      co_apply opsC_nil (TTg X V)
      co_then
      co_apply wpC_ret (TTg X V)
      try co_then
      refine ⟨rfl, _, resultsC_tmp (by rfl) _, hF.1, ?_⟩
      have h2 := hF.2
      rw [List.take_of_length_le (by omega)] at h2
      exact h2
end
end Go.Proofs.Ytggfcdhkgldbfaa
