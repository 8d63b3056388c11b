/-
  PARTS of a claim, merged by segs.py: NwIdx.
-/
import Derived.Test.YtggfcdhkgldbfaaN27
namespace Go.Proofs.Ytggfcdhkgldbfaa
set_option linter.unusedSimpArgs false
set_option linter.unusedVariables false

/-! ### NwIdx -/
section
set_option linter.unusedSimpArgs false
open Go Go.Conc Go.RowKit Go.ConcR.Gen Cw

theorem ev_eqnilN (n : Nat) (ty : TypeId) (x : Value) (w : World) (es : Array Event) : (Op.equalIn (n + 1) 50 (.iface ty x) .nilIface).events Try.prog w es = es := by
  rw [Op.equalIn]
  simp [go_sem, Try.underlying50]
theorem run_eqnilN (n : Nat) (ty : TypeId) (x : Value) (w : World) : (Op.equalIn (n + 1) 50 (.iface ty x) .nilIface).run Try.prog w = .ok false w := by
  rw [Op.equalIn]
  simp [go_sem, Try.underlying50]
theorem ev_eqnil (ty : TypeId) (x : Value) (w : World) (es : Array Event) : (binOp .eql 50 (.iface ty x) .nilIface).events Try.prog w es = es := by
  have h := ev_eqnilN 9999 ty x w es
  have h2 := run_eqnilN 9999 ty x w
  simp only [binOp]
  simp [Op.equal, Op.maxDepth, go_sem, h, h2]
theorem ev_eqg (ty : TypeId) (x : Value) (w : World) (es : Array Event) (a b : Operand) : (eqGuard .eql 50 a b (.iface ty x) .nilIface).events Try.prog w es = es := by
  simp [eqGuard, go_sem]
set_option maxRecDepth 100000 in
set_option maxHeartbeats 2000000 in
theorem c_run1 {X : Cx} {V : Nat → Prop} {W : World} {main : Bool} : ∃ k, ∀ (ty : TypeId) (x : Value) (w : World), Ext V W w → CallsC Try.prog main (Ext V) (HDq X) 15 #[.iface ty x] k w (fun r w' => r = .bool false ∧ Ext V W w') := by
  have rl : ∀ {w w' : World}, Ext V W w → Ext V w w' → Ext V W w' := fun h r => h.trans r
  co_apply Exists.intro
  intro ty x w hF
  co_apply callsC_of_wpC Try.func15 (by rfl) rfl
  simp only [Try.ntmps15, List.size_toArray, List.length_cons, List.length_nil, Nat.reduceAdd, Nat.reduceSub, Array.replicate_succ, Array.replicate_zero, List.push_toArray, List.append_toArray, List.nil_append, List.cons_append]
  co_apply wpC_seq (TTg X V)
  co_reg (TTg X V)
  co_op rl hF (co_quiet (TTg X V))
  co_apply opsC_nil (TTg X V)
  co_then
  co_apply wpC_seq (TTg X V)
  co_reg (TTg X V)
  co_op rl hF (co_quiet (TTg X V))
  co_opw rl hF (have hq1 := ev_eqnil ty x; have hq2 := ev_eqg ty x) (co_still (TTg X V))
  clear hq1 hq2
  co_op rl hF (co_quiet (TTg X V))
  co_apply opsC_nil (TTg X V)
  co_then
  co_apply wpC_ret (TTg X V)
  try co_then
  exact ⟨rfl, _, resultsC_tmp (by rfl) _, rfl, hF⟩
set_option maxRecDepth 100000 in
set_option maxHeartbeats 2000000 in
theorem c_run2 {X : Cx} {V : Nat → Prop} {W : World} {main : Bool} (hS : Wd X V W) {tb n : Nat} {al : Option Addr} {cap : Nat} (htb : W.cell? ⟨tb, 0, none⟩ = some (.slice al n cap)) : ∃ k, ∀ (i : Nat) (w : World), i < n → Ext V W w → CallsC Try.prog main (Ext V) (HDq X) 17 #[.int .i64 i, .pointer (some ⟨tb, 0, none⟩)] k w (fun r w' => r = .bool false ∧ Ext V W w') := by
  have rl : ∀ {w w' : World}, Ext V W w → Ext V w w' → Ext V W w' := fun h r => h.trans r
  co_apply Exists.intro
  intro i w hin hF
  have h0 : ¬ ((i : Int) < 0) := by omega
  have h1 : ¬ ((n : Int) ≤ i) := by omega
  have h2 : (decide ((i : Int) < 0)) = false := by simp
  have h3 : (decide ((n : Int) ≤ i)) = false := by simp; omega
  co_apply callsC_of_wpC Try.func17 (by rfl) rfl
  simp only [Try.ntmps17, List.size_toArray, List.length_cons, List.length_nil, Nat.reduceAdd, Nat.reduceSub, Array.replicate_succ, Array.replicate_zero, List.push_toArray, List.append_toArray, List.nil_append, List.cons_append]
  co_apply wpC_seq (TTg X V)
  co_reg (TTg X V)
  co_op rl hF (co_quiet (TTg X V))
  co_apply opsC_nil (TTg X V)
  co_then
  co_apply wpC_seq (TTg X V)
  co_reg (TTg X V)
  co_op rl hF (co_quiet (TTg X V))
  co_opw rl hF (skip) (co_still (TTg X V))
  try simp only [h2]
  co_op rl hF (co_quiet (TTg X V))
  co_op rl hF (co_quiet (TTg X V))
  co_opw rl hF (have hc := cell_extg hS hF (htb) (by rfl)) (refine rd_oldg hS hF (htb) (by rfl) (fun e he => ?_); have hm := mem_listed he; simp [go_sem, *] at hm; exact hm)
  clear hc
  co_op rl hF (co_quiet (TTg X V))
  co_opw rl hF (skip) (co_still (TTg X V))
  try simp only [h3]
  co_op rl hF (co_quiet (TTg X V))
  co_op rl hF (co_quiet (TTg X V))
  co_apply opsC_nil (TTg X V)
  co_then
  co_apply wpC_ret (TTg X V)
  try co_then
  exact ⟨rfl, _, resultsC_tmp (by rfl) _, rfl, hF⟩
set_option maxRecDepth 100000 in
set_option maxHeartbeats 2000000 in
theorem c_idxT {X : Cx} {V : Nat → Prop} {W : World} {main : Bool} (hS : Wd X V W) {al : Option Addr} {xs : List Value} (lcap : Nat) (hp : VRow W al xs) (hpl : xs.length ≤ 17179869184) (hx : ∀ u ∈ xs, notWg u = true) {f : FuncId} {cap : Array Value} (hf : ∃ kf, ∀ x ∈ xs, ∀ w, Ext V W w → CallsC Try.prog main (Ext V) (HDq X) f (#[x] ++ cap) kf w (fun r w' => r = .bool false ∧ Ext V W w')) :
    ∃ k, ∀ w, Ext V W w → CallsC Try.prog main (Ext V) (HDq X) 25 #[.slice al xs.length lcap, .func (.func f) #[] cap] k w (fun r w' => r = .int .i64 (-1) ∧ Ext V W w') := by
  obtain ⟨kf, hkf⟩ := hf
  have rl : ∀ {w w' : World}, Ext V W w → Ext V w w' → Ext V W w' := fun h r => h.trans r
  rcases hp with hp | ⟨b, o, rfl, hcs⟩
  · have hL0 : xs.length ≤ 0 := by rw [hp]; simp
    clear hp
    co_apply Exists.intro
    intro w hF
    co_apply callsC_of_wpC Try.func25 (by rfl) rfl
    simp only [Try.ntmps25, List.size_toArray, List.length_cons, List.length_nil, Nat.reduceAdd, Nat.reduceSub, Array.replicate_succ, Array.replicate_zero, List.push_toArray, List.append_toArray, List.nil_append, List.cons_append]
    co_apply wpC_seq (TTg X V)
    co_reg (TTg X V)
    co_op rl hF (co_quiet (TTg X V))
    co_apply opsC_nil (TTg X V)
    co_then
    co_apply wpC_seq (TTg X V)
    co_apply wpC_seq (TTg X V)
    co_reg (TTg X V)
    co_op rl hF (co_quiet (TTg X V))
    co_op rl hF (co_quiet (TTg X V))
    co_op rl hF (co_quiet (TTg X V))
    co_apply opsC_nil (TTg X V)
    co_then
    co_apply wpC_block (TTg X V)
    co_apply wpC_loop (TTg X V) (fun a' w' => ∃ (T : Array Value) (i : Nat), a' = ⟨T, []⟩ ∧ T.size = 19 ∧ T[0]? = some (.slice al xs.length lcap) ∧ T[1]? = some (.func (.func f) #[] cap) ∧ T[7]? = some (.int .i64 xs.length) ∧ T[8]? = some (.int .i64 i) ∧ i ≤ xs.length ∧ Ext V W w') (fun a' _ => xs.length - slotN a' 8) _ (xs.length)
    · exact ⟨_, 0, rfl, rfl, rfl, rfl, rfl, rfl, by omega, hF⟩
    · simp [slotN]
    clear hF w
    rintro a' w ⟨T, i, rfl, hT, h0, h1, h7, h8, hi, hF⟩
    obtain ⟨v0, v1, v2, v3, v4, v5, v6, v7, v8, v9, v10, v11, v12, v13, v14, v15, v16, v17, v18, rfl⟩ := arr19 T hT
    simp only [List.getElem?_toArray, List.getElem?_cons_zero, List.getElem?_cons_succ, Option.some.injEq] at h0 h1 h7 h8
    subst h0
    subst h1
    subst h7
    subst h8
    co_apply wpC_seq (TTg X V)
    co_reg (TTg X V)
    co_op rl hF (co_quiet (TTg X V))
    co_apply opsC_nil (TTg X V)
    co_then
    co_apply wpC_seq (TTg X V) (n₂ := 0)
    co_split (TTg X V) (decide ((i : Int) < (xs.length : Int)))
    · intro ht
      exact wpC_absurd (by have : i < xs.length := (by simpa using ht); omega)
    · intro ht
      co_apply wpC_exit (TTg X V)
      co_then
      co_apply wpC_seq (TTg X V)
      co_reg (TTg X V)
      co_op rl hF (co_quiet (TTg X V))
      co_apply opsC_nil (TTg X V)
      co_then
      co_apply wpC_ret (TTg X V)
      try co_then
      exact ⟨rfl, _, resultsC_tmp (by rfl) _, rfl, hF⟩
  · co_apply Exists.intro
    intro w hF
    co_apply callsC_of_wpC Try.func25 (by rfl) rfl
    simp only [Try.ntmps25, List.size_toArray, List.length_cons, List.length_nil, Nat.reduceAdd, Nat.reduceSub, Array.replicate_succ, Array.replicate_zero, List.push_toArray, List.append_toArray, List.nil_append, List.cons_append]
    co_apply wpC_seq (TTg X V)
    co_reg (TTg X V)
    co_op rl hF (co_quiet (TTg X V))
    co_apply opsC_nil (TTg X V)
    co_then
    co_apply wpC_seq (TTg X V)
    co_apply wpC_seq (TTg X V)
    co_reg (TTg X V)
    co_op rl hF (co_quiet (TTg X V))
    co_op rl hF (co_quiet (TTg X V))
    co_op rl hF (co_quiet (TTg X V))
    co_apply opsC_nil (TTg X V)
    co_then
    co_apply wpC_block (TTg X V)
    co_apply wpC_loop (TTg X V) (fun a' w' => ∃ (T : Array Value) (i : Nat), a' = ⟨T, []⟩ ∧ T.size = 19 ∧ T[0]? = some (.slice (some ⟨b, o, none⟩) xs.length lcap) ∧ T[1]? = some (.func (.func f) #[] cap) ∧ T[7]? = some (.int .i64 xs.length) ∧ T[8]? = some (.int .i64 i) ∧ i ≤ xs.length ∧ Ext V W w') (fun a' _ => xs.length - slotN a' 8) _ (xs.length)
    · exact ⟨_, 0, rfl, rfl, rfl, rfl, rfl, rfl, by omega, hF⟩
    · simp [slotN]
    clear hF w
    rintro a' w ⟨T, i, rfl, hT, h0, h1, h7, h8, hi, hF⟩
    obtain ⟨v0, v1, v2, v3, v4, v5, v6, v7, v8, v9, v10, v11, v12, v13, v14, v15, v16, v17, v18, rfl⟩ := arr19 T hT
    simp only [List.getElem?_toArray, List.getElem?_cons_zero, List.getElem?_cons_succ, Option.some.injEq] at h0 h1 h7 h8
    subst h0
    subst h1
    subst h7
    subst h8
    co_apply wpC_seq (TTg X V)
    co_reg (TTg X V)
    co_op rl hF (co_quiet (TTg X V))
    co_apply opsC_nil (TTg X V)
    co_then
    co_apply wpC_seq (TTg X V)
    co_split (TTg X V) (decide ((i : Int) < (xs.length : Int)))
    · intro ht
      have hil : i < xs.length := by simpa using ht
      co_apply wpC_skip (TTg X V)
      co_then
      co_apply wpC_seq (TTg X V)
      co_apply wpC_block (TTg X V)
      co_apply wpC_seq (TTg X V)
      obtain ⟨x, hxi⟩ : ∃ x, xs[i]? = some x := ⟨_, List.getElem?_eq_getElem hil⟩
      have hxw := hx x (List.mem_of_getElem? hxi)
      co_reg (TTg X V)
      co_op rl hF (co_quiet (TTg X V))
      co_op rl hF (co_quiet (TTg X V))
      co_apply opsC_nil (TTg X V)
      co_then
      co_apply wpC_seq (TTg X V)
      co_reg (TTg X V)
      co_op rl hF (co_quiet (TTg X V))
      co_op rl hF (co_quiet (TTg X V))
      co_op rl hF (co_quiet (TTg X V))
      co_opw rl hF (skip) (co_still (TTg X V))
      co_opw rl hF (have hc := cell_extg hS hF (hcs i x hxi) hxw) (refine rd_oldg hS hF (hcs i x hxi) hxw (fun e he => ?_); have hm := mem_listed he; simp [go_sem, *] at hm; exact hm)
      clear hc
      co_apply opsC_callv (TTg X V) (vo := .tmp 11) (f := f) (cap := cap) (args := #[.tmp 15]) (ats := #[50]) (by rfl) (by rfl) (by rfl) (by rfl) (by simp only [List.map_toArray, List.map_cons, List.map_nil, Act.eval]; exact hkf x (List.mem_of_getElem? hxi) _ hF)
      rintro v w' ⟨rfl, hF⟩
      try walk_nrm
      co_apply opsC_nil (TTg X V)
      co_then
      co_apply wpC_cond (TTg X V) (t := false)
      · rfl
      simp only [if_false, reduceIte, Bool.false_eq_true]
      co_apply wpC_skip (TTg X V)
      co_then
      co_reg (TTg X V)
      co_op rl hF (co_quiet (TTg X V))
      co_op rl hF (co_quiet (TTg X V))
      co_apply opsC_nil (TTg X V)
      co_then
      have hwr : IntKind.i64.wrap ((i : Int) + 1) = ((i + 1 : Nat) : Int) := by rw [IntKind.wrap_i64]; omega
      refine ⟨⟨_, i + 1, rfl, rfl, rfl, rfl, rfl, by simp [hwr], by omega, hF⟩, ?_⟩
      · simp [slotN, hwr]; omega
    · intro ht
      co_apply wpC_exit (TTg X V)
      co_then
      co_apply wpC_seq (TTg X V)
      co_reg (TTg X V)
      co_op rl hF (co_quiet (TTg X V))
      co_apply opsC_nil (TTg X V)
      co_then
      co_apply wpC_ret (TTg X V)
      try co_then
      exact ⟨rfl, _, resultsC_tmp (by rfl) _, rfl, hF⟩
set_option maxRecDepth 100000 in
set_option maxHeartbeats 2000000 in
theorem c_conT {X : Cx} {V : Nat → Prop} {W : World} {main : Bool} (hS : Wd X V W) {al : Option Addr} {xs : List Value} (lcap : Nat) (hp : VRow W al xs) (hpl : xs.length ≤ 17179869184) (hx : ∀ u ∈ xs, notWg u = true) {f : FuncId} {cap : Array Value} (hf : ∃ kf, ∀ x ∈ xs, ∀ w, Ext V W w → CallsC Try.prog main (Ext V) (HDq X) f (#[x] ++ cap) kf w (fun r w' => r = .bool false ∧ Ext V W w')) :
    ∃ k, ∀ w, Ext V W w → CallsC Try.prog main (Ext V) (HDq X) 14 #[.slice al xs.length lcap, .func (.func f) #[] cap] k w (fun r w' => r = .bool false ∧ Ext V W w') := by
  obtain ⟨k, hk⟩ := c_idxT (X := X) (V := V) (main := main) hS lcap hp hpl hx hf
  have rl : ∀ {w w' : World}, Ext V W w → Ext V w w' → Ext V W w' := fun h r => h.trans r
  co_apply Exists.intro
  intro w hF
  co_apply callsC_of_wpC Try.func14 (by rfl) rfl
  simp only [Try.ntmps14, List.size_toArray, List.length_cons, List.length_nil, Nat.reduceAdd, Nat.reduceSub, Array.replicate_succ, Array.replicate_zero, List.push_toArray, List.append_toArray, List.nil_append, List.cons_append]
  co_apply wpC_seq (TTg X V)
  co_reg (TTg X V)
  co_op rl hF (co_quiet (TTg X V))
  co_apply opsC_nil (TTg X V)
  co_then
  co_apply wpC_seq (TTg X V)
  co_reg (TTg X V)
  co_op rl hF (co_quiet (TTg X V))
  co_op rl hF (co_quiet (TTg X V))
  co_apply opsC_call (TTg X V) (f := 25) (args := #[.tmp 5, .tmp 6]) (ats := #[32, 53]) (by rfl) (by rfl) (by rfl) (by simp only [List.map_toArray, List.map_cons, List.map_nil, Act.eval]; exact hk _ hF)
  rintro v w' ⟨rfl, hF⟩
  try walk_nrm
  co_op rl hF (co_quiet (TTg X V))
  co_op rl hF (co_quiet (TTg X V))
  co_apply opsC_nil (TTg X V)
  co_then
  co_apply wpC_ret (TTg X V)
  try co_then
  exact ⟨rfl, _, resultsC_tmp (by rfl) _, rfl, hF⟩
set_option maxRecDepth 100000 in
set_option maxHeartbeats 2000000 in
theorem c_idxI {X : Cx} {V : Nat → Prop} {W : World} {main : Bool} (hS : Wd X V W) {al : Option Addr} {xs : List Value} (lcap : Nat) (hp : VRow W al xs) (hpl : xs.length ≤ 17179869184) (hx : ∀ u ∈ xs, notWg u = true) {f : FuncId} {cap : Array Value} (hf : ∃ kf, ∀ x ∈ xs, ∀ w, Ext V W w → CallsC Try.prog main (Ext V) (HDq X) f (#[x] ++ cap) kf w (fun r w' => r = .bool false ∧ Ext V W w')) :
    ∃ k, ∀ w, Ext V W w → CallsC Try.prog main (Ext V) (HDq X) 26 #[.slice al xs.length lcap, .func (.func f) #[] cap] k w (fun r w' => r = .int .i64 (-1) ∧ Ext V W w') := by
  obtain ⟨kf, hkf⟩ := hf
  have rl : ∀ {w w' : World}, Ext V W w → Ext V w w' → Ext V W w' := fun h r => h.trans r
  rcases hp with hp | ⟨b, o, rfl, hcs⟩
  · have hL0 : xs.length ≤ 0 := by rw [hp]; simp
    clear hp
    co_apply Exists.intro
    intro w hF
    co_apply callsC_of_wpC Try.func26 (by rfl) rfl
    simp only [Try.ntmps26, List.size_toArray, List.length_cons, List.length_nil, Nat.reduceAdd, Nat.reduceSub, Array.replicate_succ, Array.replicate_zero, List.push_toArray, List.append_toArray, List.nil_append, List.cons_append]
    co_apply wpC_seq (TTg X V)
    co_reg (TTg X V)
    co_op rl hF (co_quiet (TTg X V))
    co_apply opsC_nil (TTg X V)
    co_then
    co_apply wpC_seq (TTg X V)
    co_apply wpC_seq (TTg X V)
    co_reg (TTg X V)
    co_op rl hF (co_quiet (TTg X V))
    co_op rl hF (co_quiet (TTg X V))
    co_op rl hF (co_quiet (TTg X V))
    co_apply opsC_nil (TTg X V)
    co_then
    co_apply wpC_block (TTg X V)
    co_apply wpC_loop (TTg X V) (fun a' w' => ∃ (T : Array Value) (i : Nat), a' = ⟨T, []⟩ ∧ T.size = 19 ∧ T[0]? = some (.slice al xs.length lcap) ∧ T[1]? = some (.func (.func f) #[] cap) ∧ T[7]? = some (.int .i64 xs.length) ∧ T[8]? = some (.int .i64 i) ∧ i ≤ xs.length ∧ Ext V W w') (fun a' _ => xs.length - slotN a' 8) _ (xs.length)
    · exact ⟨_, 0, rfl, rfl, rfl, rfl, rfl, rfl, by omega, hF⟩
    · simp [slotN]
    clear hF w
    rintro a' w ⟨T, i, rfl, hT, h0, h1, h7, h8, hi, hF⟩
    obtain ⟨v0, v1, v2, v3, v4, v5, v6, v7, v8, v9, v10, v11, v12, v13, v14, v15, v16, v17, v18, rfl⟩ := arr19 T hT
    simp only [List.getElem?_toArray, List.getElem?_cons_zero, List.getElem?_cons_succ, Option.some.injEq] at h0 h1 h7 h8
    subst h0
    subst h1
    subst h7
    subst h8
    co_apply wpC_seq (TTg X V)
    co_reg (TTg X V)
    co_op rl hF (co_quiet (TTg X V))
    co_apply opsC_nil (TTg X V)
    co_then
    co_apply wpC_seq (TTg X V) (n₂ := 0)
    co_split (TTg X V) (decide ((i : Int) < (xs.length : Int)))
    · intro ht
      exact wpC_absurd (by have : i < xs.length := (by simpa using ht); omega)
    · intro ht
      co_apply wpC_exit (TTg X V)
      co_then
      co_apply wpC_seq (TTg X V)
      co_reg (TTg X V)
      co_op rl hF (co_quiet (TTg X V))
      co_apply opsC_nil (TTg X V)
      co_then
      co_apply wpC_ret (TTg X V)
      try co_then
      exact ⟨rfl, _, resultsC_tmp (by rfl) _, rfl, hF⟩
  · co_apply Exists.intro
    intro w hF
    co_apply callsC_of_wpC Try.func26 (by rfl) rfl
    simp only [Try.ntmps26, List.size_toArray, List.length_cons, List.length_nil, Nat.reduceAdd, Nat.reduceSub, Array.replicate_succ, Array.replicate_zero, List.push_toArray, List.append_toArray, List.nil_append, List.cons_append]
    co_apply wpC_seq (TTg X V)
    co_reg (TTg X V)
    co_op rl hF (co_quiet (TTg X V))
    co_apply opsC_nil (TTg X V)
    co_then
    co_apply wpC_seq (TTg X V)
    co_apply wpC_seq (TTg X V)
    co_reg (TTg X V)
    co_op rl hF (co_quiet (TTg X V))
    co_op rl hF (co_quiet (TTg X V))
    co_op rl hF (co_quiet (TTg X V))
    co_apply opsC_nil (TTg X V)
    co_then
    co_apply wpC_block (TTg X V)
    co_apply wpC_loop (TTg X V) (fun a' w' => ∃ (T : Array Value) (i : Nat), a' = ⟨T, []⟩ ∧ T.size = 19 ∧ T[0]? = some (.slice (some ⟨b, o, none⟩) xs.length lcap) ∧ T[1]? = some (.func (.func f) #[] cap) ∧ T[7]? = some (.int .i64 xs.length) ∧ T[8]? = some (.int .i64 i) ∧ i ≤ xs.length ∧ Ext V W w') (fun a' _ => xs.length - slotN a' 8) _ (xs.length)
    · exact ⟨_, 0, rfl, rfl, rfl, rfl, rfl, rfl, by omega, hF⟩
    · simp [slotN]
    clear hF w
    rintro a' w ⟨T, i, rfl, hT, h0, h1, h7, h8, hi, hF⟩
    obtain ⟨v0, v1, v2, v3, v4, v5, v6, v7, v8, v9, v10, v11, v12, v13, v14, v15, v16, v17, v18, rfl⟩ := arr19 T hT
    simp only [List.getElem?_toArray, List.getElem?_cons_zero, List.getElem?_cons_succ, Option.some.injEq] at h0 h1 h7 h8
    subst h0
    subst h1
    subst h7
    subst h8
    co_apply wpC_seq (TTg X V)
    co_reg (TTg X V)
    co_op rl hF (co_quiet (TTg X V))
    co_apply opsC_nil (TTg X V)
    co_then
    co_apply wpC_seq (TTg X V)
    co_split (TTg X V) (decide ((i : Int) < (xs.length : Int)))
    · intro ht
      have hil : i < xs.length := by simpa using ht
      co_apply wpC_skip (TTg X V)
      co_then
      co_apply wpC_seq (TTg X V)
      co_apply wpC_block (TTg X V)
      co_apply wpC_seq (TTg X V)
      obtain ⟨x, hxi⟩ : ∃ x, xs[i]? = some x := ⟨_, List.getElem?_eq_getElem hil⟩
      have hxw := hx x (List.mem_of_getElem? hxi)
      co_reg (TTg X V)
      co_op rl hF (co_quiet (TTg X V))
      co_op rl hF (co_quiet (TTg X V))
      co_apply opsC_nil (TTg X V)
      co_then
      co_apply wpC_seq (TTg X V)
      co_reg (TTg X V)
      co_op rl hF (co_quiet (TTg X V))
      co_op rl hF (co_quiet (TTg X V))
      co_op rl hF (co_quiet (TTg X V))
      co_opw rl hF (skip) (co_still (TTg X V))
      co_opw rl hF (have hc := cell_extg hS hF (hcs i x hxi) hxw) (refine rd_oldg hS hF (hcs i x hxi) hxw (fun e he => ?_); have hm := mem_listed he; simp [go_sem, *] at hm; exact hm)
      clear hc
      co_apply opsC_callv (TTg X V) (vo := .tmp 11) (f := f) (cap := cap) (args := #[.tmp 15]) (ats := #[3]) (by rfl) (by rfl) (by rfl) (by rfl) (by simp only [List.map_toArray, List.map_cons, List.map_nil, Act.eval]; exact hkf x (List.mem_of_getElem? hxi) _ hF)
      rintro v w' ⟨rfl, hF⟩
      try walk_nrm
      co_apply opsC_nil (TTg X V)
      co_then
      co_apply wpC_cond (TTg X V) (t := false)
      · rfl
      simp only [if_false, reduceIte, Bool.false_eq_true]
      co_apply wpC_skip (TTg X V)
      co_then
      co_reg (TTg X V)
      co_op rl hF (co_quiet (TTg X V))
      co_op rl hF (co_quiet (TTg X V))
      co_apply opsC_nil (TTg X V)
      co_then
      have hwr : IntKind.i64.wrap ((i : Int) + 1) = ((i + 1 : Nat) : Int) := by rw [IntKind.wrap_i64]; omega
      refine ⟨⟨_, i + 1, rfl, rfl, rfl, rfl, rfl, by simp [hwr], by omega, hF⟩, ?_⟩
      · simp [slotN, hwr]; omega
    · intro ht
      co_apply wpC_exit (TTg X V)
      co_then
      co_apply wpC_seq (TTg X V)
      co_reg (TTg X V)
      co_op rl hF (co_quiet (TTg X V))
      co_apply opsC_nil (TTg X V)
      co_then
      co_apply wpC_ret (TTg X V)
      try co_then
      exact ⟨rfl, _, resultsC_tmp (by rfl) _, rfl, hF⟩
set_option maxRecDepth 100000 in
set_option maxHeartbeats 2000000 in
theorem c_conI {X : Cx} {V : Nat → Prop} {W : World} {main : Bool} (hS : Wd X V W) {al : Option Addr} {xs : List Value} (lcap : Nat) (hp : VRow W al xs) (hpl : xs.length ≤ 17179869184) (hx : ∀ u ∈ xs, notWg u = true) {f : FuncId} {cap : Array Value} (hf : ∃ kf, ∀ x ∈ xs, ∀ w, Ext V W w → CallsC Try.prog main (Ext V) (HDq X) f (#[x] ++ cap) kf w (fun r w' => r = .bool false ∧ Ext V W w')) :
    ∃ k, ∀ w, Ext V W w → CallsC Try.prog main (Ext V) (HDq X) 16 #[.slice al xs.length lcap, .func (.func f) #[] cap] k w (fun r w' => r = .bool false ∧ Ext V W w') := by
  obtain ⟨k, hk⟩ := c_idxI (X := X) (V := V) (main := main) hS lcap hp hpl hx hf
  have rl : ∀ {w w' : World}, Ext V W w → Ext V w w' → Ext V W w' := fun h r => h.trans r
  co_apply Exists.intro
  intro w hF
  co_apply callsC_of_wpC Try.func16 (by rfl) rfl
  simp only [Try.ntmps16, List.size_toArray, List.length_cons, List.length_nil, Nat.reduceAdd, Nat.reduceSub, Array.replicate_succ, Array.replicate_zero, List.push_toArray, List.append_toArray, List.nil_append, List.cons_append]
  co_apply wpC_seq (TTg X V)
  co_reg (TTg X V)
  co_op rl hF (co_quiet (TTg X V))
  co_apply opsC_nil (TTg X V)
  co_then
  co_apply wpC_seq (TTg X V)
  co_reg (TTg X V)
  co_op rl hF (co_quiet (TTg X V))
  co_op rl hF (co_quiet (TTg X V))
  co_apply opsC_call (TTg X V) (f := 26) (args := #[.tmp 5, .tmp 6]) (ats := #[24, 55]) (by rfl) (by rfl) (by rfl) (by simp only [List.map_toArray, List.map_cons, List.map_nil, Act.eval]; exact hk _ hF)
  rintro v w' ⟨rfl, hF⟩
  try walk_nrm
  co_op rl hF (co_quiet (TTg X V))
  co_op rl hF (co_quiet (TTg X V))
  co_apply opsC_nil (TTg X V)
  co_then
  co_apply wpC_ret (TTg X V)
  try co_then
  exact ⟨rfl, _, resultsC_tmp (by rfl) _, rfl, hF⟩
end
end Go.Proofs.Ytggfcdhkgldbfaa
