/-
  PARTS of a claim, merged by segs.py: CwTsk, CwIdx.
-/
import Derived.Test.YtggfcdhkgldbfaaDoorS26
namespace Go.Proofs.YtggfcdhkgldbfaaDoor
set_option linter.unusedSimpArgs false
set_option linter.unusedVariables false

/-! ### CwTsk -/
section
set_option linter.unusedSimpArgs false
open Go Go.Conc Go.RowKit Go.ConcR.Gen Cw

/-- Values that stand one behind the other. -/
def VRow (w : World) (a : Option Addr) (us : List Value) : Prop := us = [] ∨ ∃ b o, a = some ⟨b, o, none⟩ ∧ ∀ (k : Nat) (u : Value), us[k]? = some u → w.cell? ⟨b, o + k, none⟩ = some u
def IsSl (u : Value) : Prop := ∃ a n c, u = .slice a n c
def ifs (us : List Value) : List Value := us.map fun u => .iface 72 u
theorem tkInfo : ∃ i, Tryd.prog.info? 49 = some i ∧ i.zero = some .nilIface ∧ i.size = 1 ∧ i.bytes = 16 := by
  have h : (Tryd.prog.info? 49).map (fun i => (i.zero, i.size, i.bytes)) = some (some .nilIface, 1, 16) := by kernel_rfl
  obtain ⟨i, hi, hb⟩ := Option.map_eq_some_iff.1 h
  simp at hb
  exact ⟨i, hi, hb⟩
theorem bt1 (x : Value) (w : World) : (Instr.buildSlice 25 1 #[(0, .iface 72 x)]).run Tryd.prog w = .ok (.slice (some ⟨w.heap.size, 0, none⟩) 1 1) (w.alloc (.cells #[.iface 72 x] 49)) := by
  obtain ⟨it, hit, h1, h2, _⟩ := tkInfo
  refine run_buildSlice w _ _ 1 _ _ it _ (by kernel_rfl) hit h1 (by rw [h2]; omega) (by rw [h2]; omega) ?_
  rw [h2]
  kernel_rfl
theorem bt1E (x : Value) (w : World) (es : Array Event) : (Instr.buildSlice 25 1 #[(0, .iface 72 x)]).events Tryd.prog w es = es := by
  obtain ⟨it, hit, h1, h2, _⟩ := tkInfo
  simp [Instr.buildSlice, go_sem, sizeOf, typeInfo, zeroValue, hit, h1, h2]
theorem mkiE (x : Value) (w : World) (es : Array Event) : (Instr.makeInterface 72 x).events Tryd.prog w es = es := by
  simp [Instr.makeInterface, go_sem, Tryd.underlying72]
set_option maxRecDepth 100000 in
set_option maxHeartbeats 2000000 in
theorem c_tasks {Sh : Loc → Prop} {W : World} {main : Bool} (hS : ShOk Sh W) {al : Option Addr} {us : List Value} (lcap : Nat) (hp : VRow W al us) (hpl : us.length ≤ 17179869184) (hx : ∀ u ∈ us, IsSl u) :
    ∃ k, ∀ w, Ext Vn W w → CallsC Tryd.prog main (Ext Vn) (HDq (Cx0 Sh)) 10 #[.slice al us.length lcap] k w (fun r w' => Ext Vn W w' ∧ w'.ownsRow W.heap.size 49 1 r (ifs us).length (ifs us)) := by
  obtain ⟨it, hit, hz1, hz2, hz3⟩ := tkInfo
  have rl0 : ∀ {w w' : World}, Ext Vn W w → Ext Vn w w' → Ext Vn W w' := fun h r => h.trans r
  have rl : ∀ {u : Value} {l : List Value} {k : Nat} {w w' : World}, (Ext Vn W w ∧ w.ownsRow W.heap.size 49 1 u k l) → Ext Vn w w' → (Ext Vn W w' ∧ w'.ownsRow W.heap.size 49 1 u k l) := fun h r => ⟨h.1.trans r, ownsRow_ext h.2 r fun _ _ => id⟩
  rcases hp with hp | ⟨b, o, rfl, hcs⟩
  · have hL0 : us.length ≤ 0 := by rw [hp]; simp
    clear hp
    co_apply Exists.intro
    intro w hF
    co_apply callsC_of_wpC Tryd.func10 (by rfl) rfl
    simp only [Tryd.ntmps10, List.size_toArray, List.length_cons, List.length_nil, Nat.reduceAdd, Nat.reduceSub, Array.replicate_succ, Array.replicate_zero, List.push_toArray, List.append_toArray, List.nil_append, List.cons_append]
    co_apply wpC_seq (TT Sh)
    co_reg (TT Sh)
    co_op rl0 hF (co_quiet (TT Sh))
    co_apply opsC_nil (TT Sh)
    co_then
    co_apply wpC_seq (TT Sh)
    co_reg (TT Sh)
    co_op rl0 hF (co_quiet (TT Sh))
    co_apply opsC_nil (TT Sh)
    co_then
    co_apply wpC_seq (TT Sh)
    co_apply wpC_seq (TT Sh)
    co_reg (TT Sh)
    co_op rl0 hF (co_quiet (TT Sh))
    co_op rl0 hF (co_quiet (TT Sh))
    co_op rl0 hF (co_quiet (TT Sh))
    co_apply opsC_nil (TT Sh)
    co_then
    co_apply wpC_block (TT Sh)
    co_apply wpC_loop (TT Sh) (fun a' w' => ∃ (T : Array Value) (i : Nat) (u : Value), a' = ⟨T, []⟩ ∧ T.size = 19 ∧ T[3]? = some (u) ∧ T[6]? = some (.slice al us.length lcap) ∧ T[7]? = some (.int .i64 us.length) ∧ T[8]? = some (.int .i64 i) ∧ i ≤ us.length ∧ Ext Vn W w' ∧ w'.ownsRow W.heap.size 49 1 u (ifs (us.take i)).length (ifs (us.take i))) (fun a' _ => us.length - slotN a' 8) _ (us.length)
    · exact ⟨_, 0, .slice none 0 0, rfl, rfl, rfl, rfl, rfl, rfl, by omega, hF, by simpa [ifs] using World.ownsRow_nil _ _ _ _⟩
    · simp [slotN]
    clear hF w
    rintro a' w ⟨T, i, u, rfl, hT, h3, h6, h7, h8, hi, hF⟩
    obtain ⟨v0, v1, v2, v3, v4, v5, v6, v7, v8, v9, v10, v11, v12, v13, v14, v15, v16, v17, v18, rfl⟩ := arr19 T hT
    simp only [List.getElem?_toArray, List.getElem?_cons_zero, List.getElem?_cons_succ, Option.some.injEq] at h3 h6 h7 h8
    subst h3
    subst h6
    subst h7
    subst h8
    co_apply wpC_seq (TT Sh)
    co_reg (TT Sh)
    co_op rl hF (co_quiet (TT Sh))
    co_apply opsC_nil (TT Sh)
    co_then
    co_apply wpC_seq (TT Sh) (n₂ := 0)
    co_split (TT Sh) (decide ((i : Int) < (us.length : Int)))
    · intro ht
      exact wpC_absurd (by have : i < us.length := (by simpa using ht); omega)
    · intro ht
      have hil : i = us.length := by have : ¬ i < us.length := (by simpa using ht); omega
      co_apply wpC_exit (TT Sh)
      co_then
      co_apply wpC_seq (TT Sh)
      co_reg (TT Sh)
      co_op rl hF (co_quiet (TT Sh))
      co_op rl hF (co_quiet (TT Sh))
      co_apply opsC_nil (TT Sh)
      co_then
      co_apply wpC_ret (TT Sh)
      try co_then
      refine ⟨rfl, _, resultsC_tmp (by rfl) _, hF.1, ?_⟩
      have h2 := hF.2
      rw [List.take_of_length_le (by omega)] at h2
      exact h2
  · co_apply Exists.intro
    intro w hF
    co_apply callsC_of_wpC Tryd.func10 (by rfl) rfl
    simp only [Tryd.ntmps10, List.size_toArray, List.length_cons, List.length_nil, Nat.reduceAdd, Nat.reduceSub, Array.replicate_succ, Array.replicate_zero, List.push_toArray, List.append_toArray, List.nil_append, List.cons_append]
    co_apply wpC_seq (TT Sh)
    co_reg (TT Sh)
    co_op rl0 hF (co_quiet (TT Sh))
    co_apply opsC_nil (TT Sh)
    co_then
    co_apply wpC_seq (TT Sh)
    co_reg (TT Sh)
    co_op rl0 hF (co_quiet (TT Sh))
    co_apply opsC_nil (TT Sh)
    co_then
    co_apply wpC_seq (TT Sh)
    co_apply wpC_seq (TT Sh)
    co_reg (TT Sh)
    co_op rl0 hF (co_quiet (TT Sh))
    co_op rl0 hF (co_quiet (TT Sh))
    co_op rl0 hF (co_quiet (TT Sh))
    co_apply opsC_nil (TT Sh)
    co_then
    co_apply wpC_block (TT Sh)
    co_apply wpC_loop (TT Sh) (fun a' w' => ∃ (T : Array Value) (i : Nat) (u : Value), a' = ⟨T, []⟩ ∧ T.size = 19 ∧ T[3]? = some (u) ∧ T[6]? = some (.slice (some ⟨b, o, none⟩) us.length lcap) ∧ T[7]? = some (.int .i64 us.length) ∧ T[8]? = some (.int .i64 i) ∧ i ≤ us.length ∧ Ext Vn W w' ∧ w'.ownsRow W.heap.size 49 1 u (ifs (us.take i)).length (ifs (us.take i))) (fun a' _ => us.length - slotN a' 8) _ (us.length)
    · exact ⟨_, 0, .slice none 0 0, rfl, rfl, rfl, rfl, rfl, rfl, by omega, hF, by simpa [ifs] using World.ownsRow_nil _ _ _ _⟩
    · simp [slotN]
    clear hF w
    rintro a' w ⟨T, i, u, rfl, hT, h3, h6, h7, h8, hi, hF⟩
    obtain ⟨v0, v1, v2, v3, v4, v5, v6, v7, v8, v9, v10, v11, v12, v13, v14, v15, v16, v17, v18, rfl⟩ := arr19 T hT
    simp only [List.getElem?_toArray, List.getElem?_cons_zero, List.getElem?_cons_succ, Option.some.injEq] at h3 h6 h7 h8
    subst h3
    subst h6
    subst h7
    subst h8
    co_apply wpC_seq (TT Sh)
    co_reg (TT Sh)
    co_op rl hF (co_quiet (TT Sh))
    co_apply opsC_nil (TT Sh)
    co_then
    co_apply wpC_seq (TT Sh)
    co_split (TT Sh) (decide ((i : Int) < (us.length : Int)))
    · intro ht
      have hil : i < us.length := by simpa using ht
      co_apply wpC_skip (TT Sh)
      co_then
      co_apply wpC_seq (TT Sh)
      co_apply wpC_block (TT Sh)
      co_apply wpC_seq (TT Sh)
      obtain ⟨x, hxi⟩ : ∃ x, us[i]? = some x := ⟨_, List.getElem?_eq_getElem hil⟩
      obtain ⟨ax, nx, cx, hxe⟩ := hx x (List.mem_of_getElem? hxi)
      rw [hxe] at hxi
      clear hxe
      co_reg (TT Sh)
      co_opw rl hF (skip) (co_still (TT Sh))
      co_opw rl hF (have hc := cell_ext hF.1 (hcs i _ hxi)) (refine rd_old hS hF.1 (hcs i _ hxi) (by rfl) (fun e he => ?_); have hm := mem_listed he; simp [go_sem, *] at hm; exact hm)
      clear hc
      co_op rl hF (co_quiet (TT Sh))
      co_apply opsC_nil (TT Sh)
      co_then
      co_reg (TT Sh)
      co_op rl hF (co_quiet (TT Sh))
      co_op rl hF (co_quiet (TT Sh))
      co_opw rl hF (have hmi := mkiE) (co_still (TT Sh))
      clear hmi
      co_opw rl hF (have hm := bt1 (.slice ax nx cx); have hm' := bt1E (.slice ax nx cx)) (rw [listed_nil (by simp [go_sem, *])]; exact al_hd (by simp))
      have hF2 := And.intro (ext_alloc hF.1 (.cells #[.iface 72 (.slice ax nx cx)] 49)) (hF.2.alloc (.cells #[.iface 72 (.slice ax nx cx)] 49))
      have hln : (ifs (us.take i)).length ≤ us.length := by simp [ifs]; omega
      co_apply opsC_append hS (by rfl) (by rfl) (.tmp 12) (.tmp 15) 25 (by rfl) (by kernel_rfl) hit hz1 hz2 hz3 (by rfl) (by omega) (by rfl) (by rfl) (by omega) (news := [.iface 72 (.slice ax nx cx)]) (by rfl) (by simp [Value.oneCell']) (by simp only [maxLen]; omega) (by omega) hF2 (news_at _ _ _ _ (by rfl)) (by exact hF.1.size)
      clear hF hF2 hm hm'
      intro v' w' hF
      try walk_nrm
      co_op rl hF (co_quiet (TT Sh))
      co_apply opsC_nil (TT Sh)
      co_then
      co_reg (TT Sh)
      co_op rl hF (co_quiet (TT Sh))
      co_op rl hF (co_quiet (TT Sh))
      co_apply opsC_nil (TT Sh)
      co_then
      have hwr : IntKind.i64.wrap ((i : Int) + 1) = ((i + 1 : Nat) : Int) := by rw [IntKind.wrap_i64]; omega
      refine ⟨⟨_, i + 1, _, rfl, rfl, rfl, rfl, rfl, by simp [hwr], by omega, hF.1, ?_⟩, ?_⟩
      · have h2 := hF.2
        rw [List.take_add_one, hxi]
        simpa [ifs] using h2
      · simp [slotN, hwr]; omega
    · intro ht
      have hil : i = us.length := by have : ¬ i < us.length := (by simpa using ht); omega
      co_apply wpC_exit (TT Sh)
      co_then
      co_apply wpC_seq (TT Sh)
      co_reg (TT Sh)
      co_op rl hF (co_quiet (TT Sh))
      co_op rl hF (co_quiet (TT Sh))
      co_apply opsC_nil (TT Sh)
      co_then
      co_apply wpC_ret (TT Sh)
      try co_then
      refine ⟨rfl, _, resultsC_tmp (by rfl) _, hF.1, ?_⟩
      have h2 := hF.2
      rw [List.take_of_length_le (by omega)] at h2
      exact h2
end

/-! ### CwIdx -/
section
set_option linter.unusedSimpArgs false
open Go Go.Conc Go.RowKit Go.ConcR.Gen Cw

theorem ev_eqnilN (n : Nat) (ty : TypeId) (x : Value) (w : World) (es : Array Event) : (Op.equalIn (n + 1) 49 (.iface ty x) .nilIface).events Tryd.prog w es = es := by
  rw [Op.equalIn]
  simp [go_sem, Tryd.underlying49]
theorem run_eqnilN (n : Nat) (ty : TypeId) (x : Value) (w : World) : (Op.equalIn (n + 1) 49 (.iface ty x) .nilIface).run Tryd.prog w = .ok false w := by
  rw [Op.equalIn]
  simp [go_sem, Tryd.underlying49]
theorem ev_eqnil (ty : TypeId) (x : Value) (w : World) (es : Array Event) : (binOp .eql 49 (.iface ty x) .nilIface).events Tryd.prog w es = es := by
  have h := ev_eqnilN 9999 ty x w es
  have h2 := run_eqnilN 9999 ty x w
  simp only [binOp]
  simp [Op.equal, Op.maxDepth, go_sem, h, h2]
theorem ev_eqg (ty : TypeId) (x : Value) (w : World) (es : Array Event) (a b : Operand) : (eqGuard .eql 49 a b (.iface ty x) .nilIface).events Tryd.prog w es = es := by
  simp [eqGuard, go_sem]
set_option maxRecDepth 100000 in
set_option maxHeartbeats 2000000 in
theorem c_run1 {Sh : Loc → Prop} {W : World} {main : Bool} : ∃ k, ∀ (ty : TypeId) (x : Value) (w : World), Ext Vn W w → CallsC Tryd.prog main (Ext Vn) (HDq (Cx0 Sh)) 12 #[.iface ty x] k w (fun r w' => r = .bool false ∧ Ext Vn W w') := by
  have rl : ∀ {w w' : World}, Ext Vn W w → Ext Vn w w' → Ext Vn W w' := fun h r => h.trans r
  co_apply Exists.intro
  intro ty x w hF
  co_apply callsC_of_wpC Tryd.func12 (by rfl) rfl
  simp only [Tryd.ntmps12, List.size_toArray, List.length_cons, List.length_nil, Nat.reduceAdd, Nat.reduceSub, Array.replicate_succ, Array.replicate_zero, List.push_toArray, List.append_toArray, List.nil_append, List.cons_append]
  co_apply wpC_seq (TT Sh)
  co_reg (TT Sh)
  co_op rl hF (co_quiet (TT Sh))
  co_apply opsC_nil (TT Sh)
  co_then
  co_apply wpC_seq (TT Sh)
  co_reg (TT Sh)
  co_op rl hF (co_quiet (TT Sh))
  co_opw rl hF (have hq1 := ev_eqnil ty x; have hq2 := ev_eqg ty x) (co_still (TT Sh))
  clear hq1 hq2
  co_op rl hF (co_quiet (TT Sh))
  co_apply opsC_nil (TT Sh)
  co_then
  co_apply wpC_ret (TT Sh)
  try co_then
  exact ⟨rfl, _, resultsC_tmp (by rfl) _, rfl, hF⟩
set_option maxRecDepth 100000 in
set_option maxHeartbeats 2000000 in
theorem c_run2 {Sh : Loc → Prop} {W : World} {main : Bool} (hS : ShOk Sh W) {tb n : Nat} {al : Option Addr} {cap : Nat} (htb : W.cell? ⟨tb, 0, none⟩ = some (.slice al n cap)) : ∃ k, ∀ (i : Nat) (w : World), i < n → Ext Vn W w → CallsC Tryd.prog main (Ext Vn) (HDq (Cx0 Sh)) 14 #[.int .i64 i, .pointer (some ⟨tb, 0, none⟩)] k w (fun r w' => r = .bool false ∧ Ext Vn W w') := by
  have rl : ∀ {w w' : World}, Ext Vn W w → Ext Vn w w' → Ext Vn W w' := fun h r => h.trans r
  co_apply Exists.intro
  intro i w hin hF
  have h0 : ¬ ((i : Int) < 0) := by omega
  have h1 : ¬ ((n : Int) ≤ i) := by omega
  have h2 : (decide ((i : Int) < 0)) = false := by simp
  have h3 : (decide ((n : Int) ≤ i)) = false := by simp; omega
  co_apply callsC_of_wpC Tryd.func14 (by rfl) rfl
  simp only [Tryd.ntmps14, List.size_toArray, List.length_cons, List.length_nil, Nat.reduceAdd, Nat.reduceSub, Array.replicate_succ, Array.replicate_zero, List.push_toArray, List.append_toArray, List.nil_append, List.cons_append]
  co_apply wpC_seq (TT Sh)
  co_reg (TT Sh)
  co_op rl hF (co_quiet (TT Sh))
  co_apply opsC_nil (TT Sh)
  co_then
  co_apply wpC_seq (TT Sh)
  co_reg (TT Sh)
  co_op rl hF (co_quiet (TT Sh))
  co_opw rl hF (skip) (co_still (TT Sh))
  try simp only [h2]
  co_op rl hF (co_quiet (TT Sh))
  co_op rl hF (co_quiet (TT Sh))
  co_opw rl hF (have hc := cell_ext hF (htb)) (refine rd_old hS hF (htb) (by rfl) (fun e he => ?_); have hm := mem_listed he; simp [go_sem, *] at hm; exact hm)
  clear hc
  co_op rl hF (co_quiet (TT Sh))
  co_opw rl hF (skip) (co_still (TT Sh))
  try simp only [h3]
  co_op rl hF (co_quiet (TT Sh))
  co_op rl hF (co_quiet (TT Sh))
  co_apply opsC_nil (TT Sh)
  co_then
  co_apply wpC_ret (TT Sh)
  try co_then
  exact ⟨rfl, _, resultsC_tmp (by rfl) _, rfl, hF⟩
set_option maxRecDepth 100000 in
set_option maxHeartbeats 2000000 in
theorem c_idxT {Sh : Loc → Prop} {W : World} {main : Bool} (hS : ShOk Sh W) {al : Option Addr} {xs : List Value} (lcap : Nat) (hp : VRow W al xs) (hpl : xs.length ≤ 17179869184) (hx : ∀ u ∈ xs, notWg u = true) {f : FuncId} {cap : Array Value} (hf : ∃ kf, ∀ x ∈ xs, ∀ w, Ext Vn W w → CallsC Tryd.prog main (Ext Vn) (HDq (Cx0 Sh)) f (#[x] ++ cap) kf w (fun r w' => r = .bool false ∧ Ext Vn W w')) :
    ∃ k, ∀ w, Ext Vn W w → CallsC Tryd.prog main (Ext Vn) (HDq (Cx0 Sh)) 23 #[.slice al xs.length lcap, .func (.func f) #[] cap] k w (fun r w' => r = .int .i64 (-1) ∧ Ext Vn W w') := by
  obtain ⟨kf, hkf⟩ := hf
  have rl : ∀ {w w' : World}, Ext Vn W w → Ext Vn w w' → Ext Vn W w' := fun h r => h.trans r
  rcases hp with hp | ⟨b, o, rfl, hcs⟩
  · have hL0 : xs.length ≤ 0 := by rw [hp]; simp
    clear hp
    co_apply Exists.intro
    intro w hF
    co_apply callsC_of_wpC Tryd.func23 (by rfl) rfl
    simp only [Tryd.ntmps23, List.size_toArray, List.length_cons, List.length_nil, Nat.reduceAdd, Nat.reduceSub, Array.replicate_succ, Array.replicate_zero, List.push_toArray, List.append_toArray, List.nil_append, List.cons_append]
    co_apply wpC_seq (TT Sh)
    co_reg (TT Sh)
    co_op rl hF (co_quiet (TT Sh))
    co_apply opsC_nil (TT Sh)
    co_then
    co_apply wpC_seq (TT Sh)
    co_apply wpC_seq (TT Sh)
    co_reg (TT Sh)
    co_op rl hF (co_quiet (TT Sh))
    co_op rl hF (co_quiet (TT Sh))
    co_op rl hF (co_quiet (TT Sh))
    co_apply opsC_nil (TT Sh)
    co_then
    co_apply wpC_block (TT Sh)
    co_apply wpC_loop (TT Sh) (fun a' w' => ∃ (T : Array Value) (i : Nat), a' = ⟨T, []⟩ ∧ T.size = 19 ∧ T[0]? = some (.slice al xs.length lcap) ∧ T[1]? = some (.func (.func f) #[] cap) ∧ T[7]? = some (.int .i64 xs.length) ∧ T[8]? = some (.int .i64 i) ∧ i ≤ xs.length ∧ Ext Vn W w') (fun a' _ => xs.length - slotN a' 8) _ (xs.length)
    · exact ⟨_, 0, rfl, rfl, rfl, rfl, rfl, rfl, by omega, hF⟩
    · simp [slotN]
    clear hF w
    rintro a' w ⟨T, i, rfl, hT, h0, h1, h7, h8, hi, hF⟩
    obtain ⟨v0, v1, v2, v3, v4, v5, v6, v7, v8, v9, v10, v11, v12, v13, v14, v15, v16, v17, v18, rfl⟩ := arr19 T hT
    simp only [List.getElem?_toArray, List.getElem?_cons_zero, List.getElem?_cons_succ, Option.some.injEq] at h0 h1 h7 h8
    subst h0
    subst h1
    subst h7
    subst h8
    co_apply wpC_seq (TT Sh)
    co_reg (TT Sh)
    co_op rl hF (co_quiet (TT Sh))
    co_apply opsC_nil (TT Sh)
    co_then
    co_apply wpC_seq (TT Sh) (n₂ := 0)
    co_split (TT Sh) (decide ((i : Int) < (xs.length : Int)))
    · intro ht
      exact wpC_absurd (by have : i < xs.length := (by simpa using ht); omega)
    · intro ht
      co_apply wpC_exit (TT Sh)
      co_then
      co_apply wpC_seq (TT Sh)
      co_reg (TT Sh)
      co_op rl hF (co_quiet (TT Sh))
      co_apply opsC_nil (TT Sh)
      co_then
      co_apply wpC_ret (TT Sh)
      try co_then
      exact ⟨rfl, _, resultsC_tmp (by rfl) _, rfl, hF⟩
  · co_apply Exists.intro
    intro w hF
    co_apply callsC_of_wpC Tryd.func23 (by rfl) rfl
    simp only [Tryd.ntmps23, List.size_toArray, List.length_cons, List.length_nil, Nat.reduceAdd, Nat.reduceSub, Array.replicate_succ, Array.replicate_zero, List.push_toArray, List.append_toArray, List.nil_append, List.cons_append]
    co_apply wpC_seq (TT Sh)
    co_reg (TT Sh)
    co_op rl hF (co_quiet (TT Sh))
    co_apply opsC_nil (TT Sh)
    co_then
    co_apply wpC_seq (TT Sh)
    co_apply wpC_seq (TT Sh)
    co_reg (TT Sh)
    co_op rl hF (co_quiet (TT Sh))
    co_op rl hF (co_quiet (TT Sh))
    co_op rl hF (co_quiet (TT Sh))
    co_apply opsC_nil (TT Sh)
    co_then
    co_apply wpC_block (TT Sh)
    co_apply wpC_loop (TT Sh) (fun a' w' => ∃ (T : Array Value) (i : Nat), a' = ⟨T, []⟩ ∧ T.size = 19 ∧ T[0]? = some (.slice (some ⟨b, o, none⟩) xs.length lcap) ∧ T[1]? = some (.func (.func f) #[] cap) ∧ T[7]? = some (.int .i64 xs.length) ∧ T[8]? = some (.int .i64 i) ∧ i ≤ xs.length ∧ Ext Vn W w') (fun a' _ => xs.length - slotN a' 8) _ (xs.length)
    · exact ⟨_, 0, rfl, rfl, rfl, rfl, rfl, rfl, by omega, hF⟩
    · simp [slotN]
    clear hF w
    rintro a' w ⟨T, i, rfl, hT, h0, h1, h7, h8, hi, hF⟩
    obtain ⟨v0, v1, v2, v3, v4, v5, v6, v7, v8, v9, v10, v11, v12, v13, v14, v15, v16, v17, v18, rfl⟩ := arr19 T hT
    simp only [List.getElem?_toArray, List.getElem?_cons_zero, List.getElem?_cons_succ, Option.some.injEq] at h0 h1 h7 h8
    subst h0
    subst h1
    subst h7
    subst h8
    co_apply wpC_seq (TT Sh)
    co_reg (TT Sh)
    co_op rl hF (co_quiet (TT Sh))
    co_apply opsC_nil (TT Sh)
    co_then
    co_apply wpC_seq (TT Sh)
    co_split (TT Sh) (decide ((i : Int) < (xs.length : Int)))
    · intro ht
      have hil : i < xs.length := by simpa using ht
      co_apply wpC_skip (TT Sh)
      co_then
      co_apply wpC_seq (TT Sh)
      co_apply wpC_block (TT Sh)
      co_apply wpC_seq (TT Sh)
      obtain ⟨x, hxi⟩ : ∃ x, xs[i]? = some x := ⟨_, List.getElem?_eq_getElem hil⟩
      have hxw := hx x (List.mem_of_getElem? hxi)
      co_reg (TT Sh)
      co_op rl hF (co_quiet (TT Sh))
      co_op rl hF (co_quiet (TT Sh))
      co_apply opsC_nil (TT Sh)
      co_then
      co_apply wpC_seq (TT Sh)
      co_reg (TT Sh)
      co_op rl hF (co_quiet (TT Sh))
      co_op rl hF (co_quiet (TT Sh))
      co_op rl hF (co_quiet (TT Sh))
      co_opw rl hF (skip) (co_still (TT Sh))
      co_opw rl hF (have hc := cell_ext hF (hcs i x hxi)) (refine rd_old hS hF (hcs i x hxi) hxw (fun e he => ?_); have hm := mem_listed he; simp [go_sem, *] at hm; exact hm)
      clear hc
      co_apply opsC_callv (TT Sh) (vo := .tmp 11) (f := f) (cap := cap) (args := #[.tmp 15]) (ats := #[49]) (by rfl) (by rfl) (by rfl) (by rfl) (by simp only [List.map_toArray, List.map_cons, List.map_nil, Act.eval]; exact hkf x (List.mem_of_getElem? hxi) _ hF)
      rintro v w' ⟨rfl, hF⟩
      try walk_nrm
      co_apply opsC_nil (TT Sh)
      co_then
      co_apply wpC_cond (TT Sh) (t := false)
      · rfl
      simp only [if_false, reduceIte, Bool.false_eq_true]
      co_apply wpC_skip (TT Sh)
      co_then
      co_reg (TT Sh)
      co_op rl hF (co_quiet (TT Sh))
      co_op rl hF (co_quiet (TT Sh))
      co_apply opsC_nil (TT Sh)
      co_then
      have hwr : IntKind.i64.wrap ((i : Int) + 1) = ((i + 1 : Nat) : Int) := by rw [IntKind.wrap_i64]; omega
      refine ⟨⟨_, i + 1, rfl, rfl, rfl, rfl, rfl, by simp [hwr], by omega, hF⟩, ?_⟩
      · simp [slotN, hwr]; omega
    · intro ht
      co_apply wpC_exit (TT Sh)
      co_then
      co_apply wpC_seq (TT Sh)
      co_reg (TT Sh)
      co_op rl hF (co_quiet (TT Sh))
      co_apply opsC_nil (TT Sh)
      co_then
      co_apply wpC_ret (TT Sh)
      try co_then
      exact ⟨rfl, _, resultsC_tmp (by rfl) _, rfl, hF⟩
set_option maxRecDepth 100000 in
set_option maxHeartbeats 2000000 in
theorem c_conT {Sh : Loc → Prop} {W : World} {main : Bool} (hS : ShOk Sh W) {al : Option Addr} {xs : List Value} (lcap : Nat) (hp : VRow W al xs) (hpl : xs.length ≤ 17179869184) (hx : ∀ u ∈ xs, notWg u = true) {f : FuncId} {cap : Array Value} (hf : ∃ kf, ∀ x ∈ xs, ∀ w, Ext Vn W w → CallsC Tryd.prog main (Ext Vn) (HDq (Cx0 Sh)) f (#[x] ++ cap) kf w (fun r w' => r = .bool false ∧ Ext Vn W w')) :
    ∃ k, ∀ w, Ext Vn W w → CallsC Tryd.prog main (Ext Vn) (HDq (Cx0 Sh)) 11 #[.slice al xs.length lcap, .func (.func f) #[] cap] k w (fun r w' => r = .bool false ∧ Ext Vn W w') := by
  obtain ⟨k, hk⟩ := c_idxT (Sh := Sh) (main := main) hS lcap hp hpl hx hf
  have rl : ∀ {w w' : World}, Ext Vn W w → Ext Vn w w' → Ext Vn W w' := fun h r => h.trans r
  co_apply Exists.intro
  intro w hF
  co_apply callsC_of_wpC Tryd.func11 (by rfl) rfl
  simp only [Tryd.ntmps11, List.size_toArray, List.length_cons, List.length_nil, Nat.reduceAdd, Nat.reduceSub, Array.replicate_succ, Array.replicate_zero, List.push_toArray, List.append_toArray, List.nil_append, List.cons_append]
  co_apply wpC_seq (TT Sh)
  co_reg (TT Sh)
  co_op rl hF (co_quiet (TT Sh))
  co_apply opsC_nil (TT Sh)
  co_then
  co_apply wpC_seq (TT Sh)
  co_reg (TT Sh)
  co_op rl hF (co_quiet (TT Sh))
  co_op rl hF (co_quiet (TT Sh))
  co_apply opsC_call (TT Sh) (f := 23) (args := #[.tmp 5, .tmp 6]) (ats := #[25, 50]) (by rfl) (by rfl) (by rfl) (by simp only [List.map_toArray, List.map_cons, List.map_nil, Act.eval]; exact hk _ hF)
  rintro v w' ⟨rfl, hF⟩
  try walk_nrm
  co_op rl hF (co_quiet (TT Sh))
  co_op rl hF (co_quiet (TT Sh))
  co_apply opsC_nil (TT Sh)
  co_then
  co_apply wpC_ret (TT Sh)
  try co_then
  exact ⟨rfl, _, resultsC_tmp (by rfl) _, rfl, hF⟩
set_option maxRecDepth 100000 in
set_option maxHeartbeats 2000000 in
theorem c_idxI {Sh : Loc → Prop} {W : World} {main : Bool} (hS : ShOk Sh W) {al : Option Addr} {xs : List Value} (lcap : Nat) (hp : VRow W al xs) (hpl : xs.length ≤ 17179869184) (hx : ∀ u ∈ xs, notWg u = true) {f : FuncId} {cap : Array Value} (hf : ∃ kf, ∀ x ∈ xs, ∀ w, Ext Vn W w → CallsC Tryd.prog main (Ext Vn) (HDq (Cx0 Sh)) f (#[x] ++ cap) kf w (fun r w' => r = .bool false ∧ Ext Vn W w')) :
    ∃ k, ∀ w, Ext Vn W w → CallsC Tryd.prog main (Ext Vn) (HDq (Cx0 Sh)) 24 #[.slice al xs.length lcap, .func (.func f) #[] cap] k w (fun r w' => r = .int .i64 (-1) ∧ Ext Vn W w') := by
  obtain ⟨kf, hkf⟩ := hf
  have rl : ∀ {w w' : World}, Ext Vn W w → Ext Vn w w' → Ext Vn W w' := fun h r => h.trans r
  rcases hp with hp | ⟨b, o, rfl, hcs⟩
  · have hL0 : xs.length ≤ 0 := by rw [hp]; simp
    clear hp
    co_apply Exists.intro
    intro w hF
    co_apply callsC_of_wpC Tryd.func24 (by rfl) rfl
    simp only [Tryd.ntmps24, List.size_toArray, List.length_cons, List.length_nil, Nat.reduceAdd, Nat.reduceSub, Array.replicate_succ, Array.replicate_zero, List.push_toArray, List.append_toArray, List.nil_append, List.cons_append]
    co_apply wpC_seq (TT Sh)
    co_reg (TT Sh)
    co_op rl hF (co_quiet (TT Sh))
    co_apply opsC_nil (TT Sh)
    co_then
    co_apply wpC_seq (TT Sh)
    co_apply wpC_seq (TT Sh)
    co_reg (TT Sh)
    co_op rl hF (co_quiet (TT Sh))
    co_op rl hF (co_quiet (TT Sh))
    co_op rl hF (co_quiet (TT Sh))
    co_apply opsC_nil (TT Sh)
    co_then
    co_apply wpC_block (TT Sh)
    co_apply wpC_loop (TT Sh) (fun a' w' => ∃ (T : Array Value) (i : Nat), a' = ⟨T, []⟩ ∧ T.size = 19 ∧ T[0]? = some (.slice al xs.length lcap) ∧ T[1]? = some (.func (.func f) #[] cap) ∧ T[7]? = some (.int .i64 xs.length) ∧ T[8]? = some (.int .i64 i) ∧ i ≤ xs.length ∧ Ext Vn W w') (fun a' _ => xs.length - slotN a' 8) _ (xs.length)
    · exact ⟨_, 0, rfl, rfl, rfl, rfl, rfl, rfl, by omega, hF⟩
    · simp [slotN]
    clear hF w
    rintro a' w ⟨T, i, rfl, hT, h0, h1, h7, h8, hi, hF⟩
    obtain ⟨v0, v1, v2, v3, v4, v5, v6, v7, v8, v9, v10, v11, v12, v13, v14, v15, v16, v17, v18, rfl⟩ := arr19 T hT
    simp only [List.getElem?_toArray, List.getElem?_cons_zero, List.getElem?_cons_succ, Option.some.injEq] at h0 h1 h7 h8
    subst h0
    subst h1
    subst h7
    subst h8
    co_apply wpC_seq (TT Sh)
    co_reg (TT Sh)
    co_op rl hF (co_quiet (TT Sh))
    co_apply opsC_nil (TT Sh)
    co_then
    co_apply wpC_seq (TT Sh) (n₂ := 0)
    co_split (TT Sh) (decide ((i : Int) < (xs.length : Int)))
    · intro ht
      exact wpC_absurd (by have : i < xs.length := (by simpa using ht); omega)
    · intro ht
      co_apply wpC_exit (TT Sh)
      co_then
      co_apply wpC_seq (TT Sh)
      co_reg (TT Sh)
      co_op rl hF (co_quiet (TT Sh))
      co_apply opsC_nil (TT Sh)
      co_then
      co_apply wpC_ret (TT Sh)
      try co_then
      exact ⟨rfl, _, resultsC_tmp (by rfl) _, rfl, hF⟩
  · co_apply Exists.intro
    intro w hF
    co_apply callsC_of_wpC Tryd.func24 (by rfl) rfl
    simp only [Tryd.ntmps24, List.size_toArray, List.length_cons, List.length_nil, Nat.reduceAdd, Nat.reduceSub, Array.replicate_succ, Array.replicate_zero, List.push_toArray, List.append_toArray, List.nil_append, List.cons_append]
    co_apply wpC_seq (TT Sh)
    co_reg (TT Sh)
    co_op rl hF (co_quiet (TT Sh))
    co_apply opsC_nil (TT Sh)
    co_then
    co_apply wpC_seq (TT Sh)
    co_apply wpC_seq (TT Sh)
    co_reg (TT Sh)
    co_op rl hF (co_quiet (TT Sh))
    co_op rl hF (co_quiet (TT Sh))
    co_op rl hF (co_quiet (TT Sh))
    co_apply opsC_nil (TT Sh)
    co_then
    co_apply wpC_block (TT Sh)
    co_apply wpC_loop (TT Sh) (fun a' w' => ∃ (T : Array Value) (i : Nat), a' = ⟨T, []⟩ ∧ T.size = 19 ∧ T[0]? = some (.slice (some ⟨b, o, none⟩) xs.length lcap) ∧ T[1]? = some (.func (.func f) #[] cap) ∧ T[7]? = some (.int .i64 xs.length) ∧ T[8]? = some (.int .i64 i) ∧ i ≤ xs.length ∧ Ext Vn W w') (fun a' _ => xs.length - slotN a' 8) _ (xs.length)
    · exact ⟨_, 0, rfl, rfl, rfl, rfl, rfl, rfl, by omega, hF⟩
    · simp [slotN]
    clear hF w
    rintro a' w ⟨T, i, rfl, hT, h0, h1, h7, h8, hi, hF⟩
    obtain ⟨v0, v1, v2, v3, v4, v5, v6, v7, v8, v9, v10, v11, v12, v13, v14, v15, v16, v17, v18, rfl⟩ := arr19 T hT
    simp only [List.getElem?_toArray, List.getElem?_cons_zero, List.getElem?_cons_succ, Option.some.injEq] at h0 h1 h7 h8
    subst h0
    subst h1
    subst h7
    subst h8
    co_apply wpC_seq (TT Sh)
    co_reg (TT Sh)
    co_op rl hF (co_quiet (TT Sh))
    co_apply opsC_nil (TT Sh)
    co_then
    co_apply wpC_seq (TT Sh)
    co_split (TT Sh) (decide ((i : Int) < (xs.length : Int)))
    · intro ht
      have hil : i < xs.length := by simpa using ht
      co_apply wpC_skip (TT Sh)
      co_then
      co_apply wpC_seq (TT Sh)
      co_apply wpC_block (TT Sh)
      co_apply wpC_seq (TT Sh)
      obtain ⟨x, hxi⟩ : ∃ x, xs[i]? = some x := ⟨_, List.getElem?_eq_getElem hil⟩
      have hxw := hx x (List.mem_of_getElem? hxi)
      co_reg (TT Sh)
      co_op rl hF (co_quiet (TT Sh))
      co_op rl hF (co_quiet (TT Sh))
      co_apply opsC_nil (TT Sh)
      co_then
      co_apply wpC_seq (TT Sh)
      co_reg (TT Sh)
      co_op rl hF (co_quiet (TT Sh))
      co_op rl hF (co_quiet (TT Sh))
      co_op rl hF (co_quiet (TT Sh))
      co_opw rl hF (skip) (co_still (TT Sh))
      co_opw rl hF (have hc := cell_ext hF (hcs i x hxi)) (refine rd_old hS hF (hcs i x hxi) hxw (fun e he => ?_); have hm := mem_listed he; simp [go_sem, *] at hm; exact hm)
      clear hc
      co_apply opsC_callv (TT Sh) (vo := .tmp 11) (f := f) (cap := cap) (args := #[.tmp 15]) (ats := #[3]) (by rfl) (by rfl) (by rfl) (by rfl) (by simp only [List.map_toArray, List.map_cons, List.map_nil, Act.eval]; exact hkf x (List.mem_of_getElem? hxi) _ hF)
      rintro v w' ⟨rfl, hF⟩
      try walk_nrm
      co_apply opsC_nil (TT Sh)
      co_then
      co_apply wpC_cond (TT Sh) (t := false)
      · rfl
      simp only [if_false, reduceIte, Bool.false_eq_true]
      co_apply wpC_skip (TT Sh)
      co_then
      co_reg (TT Sh)
      co_op rl hF (co_quiet (TT Sh))
      co_op rl hF (co_quiet (TT Sh))
      co_apply opsC_nil (TT Sh)
      co_then
      have hwr : IntKind.i64.wrap ((i : Int) + 1) = ((i + 1 : Nat) : Int) := by rw [IntKind.wrap_i64]; omega
      refine ⟨⟨_, i + 1, rfl, rfl, rfl, rfl, rfl, by simp [hwr], by omega, hF⟩, ?_⟩
      · simp [slotN, hwr]; omega
    · intro ht
      co_apply wpC_exit (TT Sh)
      co_then
      co_apply wpC_seq (TT Sh)
      co_reg (TT Sh)
      co_op rl hF (co_quiet (TT Sh))
      co_apply opsC_nil (TT Sh)
      co_then
      co_apply wpC_ret (TT Sh)
      try co_then
      exact ⟨rfl, _, resultsC_tmp (by rfl) _, rfl, hF⟩
set_option maxRecDepth 100000 in
set_option maxHeartbeats 2000000 in
theorem c_conI {Sh : Loc → Prop} {W : World} {main : Bool} (hS : ShOk Sh W) {al : Option Addr} {xs : List Value} (lcap : Nat) (hp : VRow W al xs) (hpl : xs.length ≤ 17179869184) (hx : ∀ u ∈ xs, notWg u = true) {f : FuncId} {cap : Array Value} (hf : ∃ kf, ∀ x ∈ xs, ∀ w, Ext Vn W w → CallsC Tryd.prog main (Ext Vn) (HDq (Cx0 Sh)) f (#[x] ++ cap) kf w (fun r w' => r = .bool false ∧ Ext Vn W w')) :
    ∃ k, ∀ w, Ext Vn W w → CallsC Tryd.prog main (Ext Vn) (HDq (Cx0 Sh)) 13 #[.slice al xs.length lcap, .func (.func f) #[] cap] k w (fun r w' => r = .bool false ∧ Ext Vn W w') := by
  obtain ⟨k, hk⟩ := c_idxI (Sh := Sh) (main := main) hS lcap hp hpl hx hf
  have rl : ∀ {w w' : World}, Ext Vn W w → Ext Vn w w' → Ext Vn W w' := fun h r => h.trans r
  co_apply Exists.intro
  intro w hF
  co_apply callsC_of_wpC Tryd.func13 (by rfl) rfl
  simp only [Tryd.ntmps13, List.size_toArray, List.length_cons, List.length_nil, Nat.reduceAdd, Nat.reduceSub, Array.replicate_succ, Array.replicate_zero, List.push_toArray, List.append_toArray, List.nil_append, List.cons_append]
  co_apply wpC_seq (TT Sh)
  co_reg (TT Sh)
  co_op rl hF (co_quiet (TT Sh))
  co_apply opsC_nil (TT Sh)
  co_then
  co_apply wpC_seq (TT Sh)
  co_reg (TT Sh)
  co_op rl hF (co_quiet (TT Sh))
  co_op rl hF (co_quiet (TT Sh))
  co_apply opsC_call (TT Sh) (f := 24) (args := #[.tmp 5, .tmp 6]) (ats := #[29, 41]) (by rfl) (by rfl) (by rfl) (by simp only [List.map_toArray, List.map_cons, List.map_nil, Act.eval]; exact hk _ hF)
  rintro v w' ⟨rfl, hF⟩
  try walk_nrm
  co_op rl hF (co_quiet (TT Sh))
  co_op rl hF (co_quiet (TT Sh))
  co_apply opsC_nil (TT Sh)
  co_then
  co_apply wpC_ret (TT Sh)
  try co_then
  exact ⟨rfl, _, resultsC_tmp (by rfl) _, rfl, hF⟩
end
end Go.Proofs.YtggfcdhkgldbfaaDoor
