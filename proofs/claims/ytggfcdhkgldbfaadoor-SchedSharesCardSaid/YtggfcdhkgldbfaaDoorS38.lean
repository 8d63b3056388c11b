/-
  PARTS of a claim, merged by segs.py: CwIdx2.
-/
import Derived.Test.YtggfcdhkgldbfaaDoorS28
import Derived.Test.YtggfcdhkgldbfaaDoorS29
namespace Go.Proofs.YtggfcdhkgldbfaaDoor
set_option linter.unusedSimpArgs false
set_option linter.unusedVariables false

/-! ### CwIdx2 -/
section
set_option linter.unusedSimpArgs false
open Go Go.Conc Go.RowKit Go.ConcR.Gen Cw

def anyP (p : Nat → Bool) (n : Nat) : Bool := (List.range n).any p
theorem ev_nn0 (n : Nat) (w : World) (es : Array Event) : (Op.equalIn (n + 1) 49 .nilIface .nilIface).events Tryd.prog w es = es := by
  rw [Op.equalIn]
  simp [go_sem, Tryd.underlying49]
theorem run_nn0 (n : Nat) (w : World) : (Op.equalIn (n + 1) 49 .nilIface .nilIface).run Tryd.prog w = .ok true w := by
  rw [Op.equalIn]
  simp [go_sem, Tryd.underlying49]
theorem ev_nn (w : World) (es : Array Event) : (binOp .eql 49 .nilIface .nilIface).events Tryd.prog w es = es := by
  have h := ev_nn0 9999 w es
  have h2 := run_nn0 9999 w
  simp only [binOp]
  simp [Op.equal, Op.maxDepth, go_sem, h, h2]
theorem anyP_none {p : Nat → Bool} {n : Nat} (h : ∀ j, j < n → p j = false) : anyP p n = false := by
  simp only [anyP, List.any_eq_false, List.mem_range]
  intro x hx
  rw [h x hx]; simp
theorem anyP_some {p : Nat → Bool} {n i : Nat} (hi : i < n) (h : p i = true) : anyP p n = true := by
  simp only [anyP, List.any_eq_true, List.mem_range]
  exact ⟨i, hi, h⟩
set_option maxRecDepth 100000 in
set_option maxHeartbeats 2000000 in
theorem c_idxTp {Sh : Loc → Prop} {W : World} {main : Bool} (hS : ShOk Sh W) {al : Option Addr} {xs : List Value} (lcap : Nat) (hp : VRow W al xs) (hpl : xs.length ≤ 17179869184) (hx : ∀ u ∈ xs, notWg u = true) {f : FuncId} {cap : Array Value} {p : Nat → Bool} (hf : ∃ kf, ∀ (i : Nat) (x : Value), xs[i]? = some x → ∀ w, Ext Vn W w → CallsC Tryd.prog main (Ext Vn) (HDq (Cx0 Sh)) f (#[x] ++ cap) kf w (fun r w' => r = .bool (p i) ∧ Ext Vn W w')) :
    ∃ k, ∀ w, Ext Vn W w → CallsC Tryd.prog main (Ext Vn) (HDq (Cx0 Sh)) 23 #[.slice al xs.length lcap, .func (.func f) #[] cap] k w (fun r w' => (∃ z : Int, r = .int .i64 z ∧ decide (0 ≤ z) = anyP p xs.length) ∧ Ext Vn W w') := by
  have rl : ∀ {w w' : World}, Ext Vn W w → Ext Vn w w' → Ext Vn W w' := fun h r => h.trans r
  obtain ⟨kf, hkf⟩ := hf
  rcases hp with hp | ⟨b, o, rfl, hcs⟩
  · have hL0 : xs.length ≤ 0 := by rw [hp]; simp
    clear hp
    co_apply Exists.intro
    intro w hF
    co_apply callsC_of_wpC Tryd.func23 (by rfl) rfl
    simp only [Tryd.ntmps23, List.size_toArray, List.length_cons, List.length_nil, Nat.reduceAdd, Nat.reduceSub, Array.replicate_succ, Array.replicate_zero, List.push_toArray, List.append_toArray, List.nil_append, List.cons_append]
    co_apply wpC_seq (TT Sh)
    co_reg (TT Sh)
    co_op rl hF (co_quiet (TT Sh))
    co_apply opsC_nil (TT Sh)
    co_then
    co_apply wpC_seq (TT Sh)
    co_apply wpC_seq (TT Sh)
    co_reg (TT Sh)
    co_op rl hF (co_quiet (TT Sh))
    co_op rl hF (co_quiet (TT Sh))
    co_op rl hF (co_quiet (TT Sh))
    co_apply opsC_nil (TT Sh)
    co_then
    co_apply wpC_block (TT Sh)
    co_apply wpC_loop (TT Sh) (fun a' w' => ∃ (T : Array Value) (i : Nat), a' = ⟨T, []⟩ ∧ T.size = 19 ∧ T[0]? = some (.slice al xs.length lcap) ∧ T[1]? = some (.func (.func f) #[] cap) ∧ T[7]? = some (.int .i64 xs.length) ∧ T[8]? = some (.int .i64 i) ∧ i ≤ xs.length ∧ (∀ j, j < i → p j = false) ∧ Ext Vn W w') (fun a' _ => xs.length - slotN a' 8) _ (xs.length)
    · exact ⟨_, 0, rfl, rfl, rfl, rfl, rfl, rfl, by omega, fun j hj => absurd hj (by omega), hF⟩
    · simp [slotN]
    clear hF w
    rintro a' w ⟨T, i, rfl, hT, h0, h1, h7, h8, hi, hno, hF⟩
    obtain ⟨v0, v1, v2, v3, v4, v5, v6, v7, v8, v9, v10, v11, v12, v13, v14, v15, v16, v17, v18, rfl⟩ := arr19 T hT
    simp only [List.getElem?_toArray, List.getElem?_cons_zero, List.getElem?_cons_succ, Option.some.injEq] at h0 h1 h7 h8
    subst h0
    subst h1
    subst h7
    subst h8
    co_apply wpC_seq (TT Sh)
    co_reg (TT Sh)
    co_op rl hF (co_quiet (TT Sh))
    co_apply opsC_nil (TT Sh)
    co_then
    co_apply wpC_seq (TT Sh) (n₂ := 0)
    co_split (TT Sh) (decide ((i : Int) < (xs.length : Int)))
    · intro ht
      exact wpC_absurd (by have : i < xs.length := (by simpa using ht); omega)
    · intro ht
      have hil : ¬ i < xs.length := by simpa using ht
      co_apply wpC_exit (TT Sh)
      co_then
      co_apply wpC_seq (TT Sh)
      co_reg (TT Sh)
      co_op rl hF (co_quiet (TT Sh))
      co_apply opsC_nil (TT Sh)
      co_then
      co_apply wpC_ret (TT Sh)
      try co_then
      exact ⟨rfl, _, resultsC_tmp (by rfl) _, ⟨-1, rfl, by rw [anyP_none (fun j hj => hno j (by omega))]; rfl⟩, hF⟩
  · co_apply Exists.intro
    intro w hF
    co_apply callsC_of_wpC Tryd.func23 (by rfl) rfl
    simp only [Tryd.ntmps23, List.size_toArray, List.length_cons, List.length_nil, Nat.reduceAdd, Nat.reduceSub, Array.replicate_succ, Array.replicate_zero, List.push_toArray, List.append_toArray, List.nil_append, List.cons_append]
    co_apply wpC_seq (TT Sh)
    co_reg (TT Sh)
    co_op rl hF (co_quiet (TT Sh))
    co_apply opsC_nil (TT Sh)
    co_then
    co_apply wpC_seq (TT Sh)
    co_apply wpC_seq (TT Sh)
    co_reg (TT Sh)
    co_op rl hF (co_quiet (TT Sh))
    co_op rl hF (co_quiet (TT Sh))
    co_op rl hF (co_quiet (TT Sh))
    co_apply opsC_nil (TT Sh)
    co_then
    co_apply wpC_block (TT Sh)
    co_apply wpC_loop (TT Sh) (fun a' w' => ∃ (T : Array Value) (i : Nat), a' = ⟨T, []⟩ ∧ T.size = 19 ∧ T[0]? = some (.slice (some ⟨b, o, none⟩) xs.length lcap) ∧ T[1]? = some (.func (.func f) #[] cap) ∧ T[7]? = some (.int .i64 xs.length) ∧ T[8]? = some (.int .i64 i) ∧ i ≤ xs.length ∧ (∀ j, j < i → p j = false) ∧ Ext Vn W w') (fun a' _ => xs.length - slotN a' 8) _ (xs.length)
    · exact ⟨_, 0, rfl, rfl, rfl, rfl, rfl, rfl, by omega, fun j hj => absurd hj (by omega), hF⟩
    · simp [slotN]
    clear hF w
    rintro a' w ⟨T, i, rfl, hT, h0, h1, h7, h8, hi, hno, hF⟩
    obtain ⟨v0, v1, v2, v3, v4, v5, v6, v7, v8, v9, v10, v11, v12, v13, v14, v15, v16, v17, v18, rfl⟩ := arr19 T hT
    simp only [List.getElem?_toArray, List.getElem?_cons_zero, List.getElem?_cons_succ, Option.some.injEq] at h0 h1 h7 h8
    subst h0
    subst h1
    subst h7
    subst h8
    co_apply wpC_seq (TT Sh)
    co_reg (TT Sh)
    co_op rl hF (co_quiet (TT Sh))
    co_apply opsC_nil (TT Sh)
    co_then
    co_apply wpC_seq (TT Sh)
    co_split (TT Sh) (decide ((i : Int) < (xs.length : Int)))
    · intro ht
      have hil : i < xs.length := by simpa using ht
      co_apply wpC_skip (TT Sh)
      co_then
      co_apply wpC_seq (TT Sh)
      co_apply wpC_block (TT Sh)
      co_apply wpC_seq (TT Sh)
      obtain ⟨x, hxi⟩ : ∃ x, xs[i]? = some x := ⟨_, List.getElem?_eq_getElem hil⟩
      have hxw := hx x (List.mem_of_getElem? hxi)
      co_reg (TT Sh)
      co_op rl hF (co_quiet (TT Sh))
      co_op rl hF (co_quiet (TT Sh))
      co_apply opsC_nil (TT Sh)
      co_then
      co_apply wpC_seq (TT Sh)
      co_reg (TT Sh)
      co_op rl hF (co_quiet (TT Sh))
      co_op rl hF (co_quiet (TT Sh))
      co_op rl hF (co_quiet (TT Sh))
      co_opw rl hF (skip) (co_still (TT Sh))
      co_opw rl hF (have hc := cell_ext hF (hcs i x hxi)) (refine rd_old hS hF (hcs i x hxi) hxw (fun e he => ?_); have hm := mem_listed he; simp [go_sem, *] at hm; exact hm)
      clear hc
      co_apply opsC_callv (TT Sh) (vo := .tmp 11) (f := f) (cap := cap) (args := #[.tmp 15]) (ats := #[49]) (by rfl) (by rfl) (by rfl) (by rfl) (by simp only [List.map_toArray, List.map_cons, List.map_nil, Act.eval]; exact hkf i x hxi _ hF)
      rintro v w' ⟨rfl, hF⟩
      try walk_nrm
      co_apply opsC_nil (TT Sh)
      co_then
      co_split (TT Sh) (p i)
      · intro ht
        co_apply wpC_seq (TT Sh)
        co_reg (TT Sh)
        co_op rl hF (co_quiet (TT Sh))
        co_op rl hF (co_quiet (TT Sh))
        co_apply opsC_nil (TT Sh)
        co_then
        co_apply wpC_ret (TT Sh)
        try co_then
        exact ⟨rfl, _, resultsC_tmp (by rfl) _, ⟨(i : Int), rfl, by rw [anyP_some hil ht]; exact decide_eq_true (by omega)⟩, hF⟩
      · intro ht
        co_apply wpC_skip (TT Sh)
        co_then
        co_reg (TT Sh)
        co_op rl hF (co_quiet (TT Sh))
        co_op rl hF (co_quiet (TT Sh))
        co_apply opsC_nil (TT Sh)
        co_then
        have hwr : IntKind.i64.wrap ((i : Int) + 1) = ((i + 1 : Nat) : Int) := by rw [IntKind.wrap_i64]; omega
        refine ⟨⟨_, i + 1, rfl, rfl, rfl, rfl, rfl, by simp [hwr], by omega, fun j hj => ?_, hF⟩, ?_⟩
        · by_cases e : j = i
          · rw [e]; exact ht
          · exact hno j (by omega)
        · simp [slotN, hwr]; omega
    · intro ht
      have hil : ¬ i < xs.length := by simpa using ht
      co_apply wpC_exit (TT Sh)
      co_then
      co_apply wpC_seq (TT Sh)
      co_reg (TT Sh)
      co_op rl hF (co_quiet (TT Sh))
      co_apply opsC_nil (TT Sh)
      co_then
      co_apply wpC_ret (TT Sh)
      try co_then
      exact ⟨rfl, _, resultsC_tmp (by rfl) _, ⟨-1, rfl, by rw [anyP_none (fun j hj => hno j (by omega))]; rfl⟩, hF⟩
set_option maxRecDepth 100000 in
set_option maxHeartbeats 2000000 in
theorem c_conTp {Sh : Loc → Prop} {W : World} {main : Bool} (hS : ShOk Sh W) {al : Option Addr} {xs : List Value} (lcap : Nat) (hp : VRow W al xs) (hpl : xs.length ≤ 17179869184) (hx : ∀ u ∈ xs, notWg u = true) {f : FuncId} {cap : Array Value} {p : Nat → Bool} (hf : ∃ kf, ∀ (i : Nat) (x : Value), xs[i]? = some x → ∀ w, Ext Vn W w → CallsC Tryd.prog main (Ext Vn) (HDq (Cx0 Sh)) f (#[x] ++ cap) kf w (fun r w' => r = .bool (p i) ∧ Ext Vn W w')) :
    ∃ k, ∀ w, Ext Vn W w → CallsC Tryd.prog main (Ext Vn) (HDq (Cx0 Sh)) 11 #[.slice al xs.length lcap, .func (.func f) #[] cap] k w (fun r w' => r = .bool (anyP p xs.length) ∧ Ext Vn W w') := by
  have rl : ∀ {w w' : World}, Ext Vn W w → Ext Vn w w' → Ext Vn W w' := fun h r => h.trans r
  obtain ⟨k, hk⟩ := c_idxTp (main := main) hS lcap hp hpl hx hf
  co_apply Exists.intro
  intro w hF
  co_apply callsC_of_wpC Tryd.func11 (by rfl) rfl
  simp only [Tryd.ntmps11, List.size_toArray, List.length_cons, List.length_nil, Nat.reduceAdd, Nat.reduceSub, Array.replicate_succ, Array.replicate_zero, List.push_toArray, List.append_toArray, List.nil_append, List.cons_append]
  co_apply wpC_seq (TT Sh)
  co_reg (TT Sh)
  co_op rl hF (co_quiet (TT Sh))
  co_apply opsC_nil (TT Sh)
  co_then
  co_apply wpC_seq (TT Sh)
  co_reg (TT Sh)
  co_op rl hF (co_quiet (TT Sh))
  co_op rl hF (co_quiet (TT Sh))
  co_apply opsC_call (TT Sh) (f := 23) (args := #[.tmp 5, .tmp 6]) (ats := #[25, 50]) (by rfl) (by rfl) (by rfl) (by simp only [List.map_toArray, List.map_cons, List.map_nil, Act.eval]; exact hk _ hF)
  rintro v w' ⟨⟨z, rfl, hz⟩, hF⟩
  try walk_nrm
  co_op rl hF (co_quiet (TT Sh))
  co_op rl hF (co_quiet (TT Sh))
  co_apply opsC_nil (TT Sh)
  co_then
  co_apply wpC_ret (TT Sh)
  try co_then
  exact ⟨rfl, _, resultsC_tmp (by rfl) _, by simp [← hz], hF⟩
set_option maxRecDepth 100000 in
set_option maxHeartbeats 2000000 in
theorem c_idxIp {Sh : Loc → Prop} {W : World} {main : Bool} (hS : ShOk Sh W) {al : Option Addr} {xs : List Value} (lcap : Nat) (hp : VRow W al xs) (hpl : xs.length ≤ 17179869184) (hx : ∀ u ∈ xs, notWg u = true) {f : FuncId} {cap : Array Value} {p : Nat → Bool} (hf : ∃ kf, ∀ (i : Nat) (x : Value), xs[i]? = some x → ∀ w, Ext Vn W w → CallsC Tryd.prog main (Ext Vn) (HDq (Cx0 Sh)) f (#[x] ++ cap) kf w (fun r w' => r = .bool (p i) ∧ Ext Vn W w')) :
    ∃ k, ∀ w, Ext Vn W w → CallsC Tryd.prog main (Ext Vn) (HDq (Cx0 Sh)) 24 #[.slice al xs.length lcap, .func (.func f) #[] cap] k w (fun r w' => (∃ z : Int, r = .int .i64 z ∧ decide (0 ≤ z) = anyP p xs.length) ∧ Ext Vn W w') := by
  have rl : ∀ {w w' : World}, Ext Vn W w → Ext Vn w w' → Ext Vn W w' := fun h r => h.trans r
  obtain ⟨kf, hkf⟩ := hf
  rcases hp with hp | ⟨b, o, rfl, hcs⟩
  · have hL0 : xs.length ≤ 0 := by rw [hp]; simp
    clear hp
    co_apply Exists.intro
    intro w hF
    co_apply callsC_of_wpC Tryd.func24 (by rfl) rfl
    simp only [Tryd.ntmps24, List.size_toArray, List.length_cons, List.length_nil, Nat.reduceAdd, Nat.reduceSub, Array.replicate_succ, Array.replicate_zero, List.push_toArray, List.append_toArray, List.nil_append, List.cons_append]
    co_apply wpC_seq (TT Sh)
    co_reg (TT Sh)
    co_op rl hF (co_quiet (TT Sh))
    co_apply opsC_nil (TT Sh)
    co_then
    co_apply wpC_seq (TT Sh)
    co_apply wpC_seq (TT Sh)
    co_reg (TT Sh)
    co_op rl hF (co_quiet (TT Sh))
    co_op rl hF (co_quiet (TT Sh))
    co_op rl hF (co_quiet (TT Sh))
    co_apply opsC_nil (TT Sh)
    co_then
    co_apply wpC_block (TT Sh)
    co_apply wpC_loop (TT Sh) (fun a' w' => ∃ (T : Array Value) (i : Nat), a' = ⟨T, []⟩ ∧ T.size = 19 ∧ T[0]? = some (.slice al xs.length lcap) ∧ T[1]? = some (.func (.func f) #[] cap) ∧ T[7]? = some (.int .i64 xs.length) ∧ T[8]? = some (.int .i64 i) ∧ i ≤ xs.length ∧ (∀ j, j < i → p j = false) ∧ Ext Vn W w') (fun a' _ => xs.length - slotN a' 8) _ (xs.length)
    · exact ⟨_, 0, rfl, rfl, rfl, rfl, rfl, rfl, by omega, fun j hj => absurd hj (by omega), hF⟩
    · simp [slotN]
    clear hF w
    rintro a' w ⟨T, i, rfl, hT, h0, h1, h7, h8, hi, hno, hF⟩
    obtain ⟨v0, v1, v2, v3, v4, v5, v6, v7, v8, v9, v10, v11, v12, v13, v14, v15, v16, v17, v18, rfl⟩ := arr19 T hT
    simp only [List.getElem?_toArray, List.getElem?_cons_zero, List.getElem?_cons_succ, Option.some.injEq] at h0 h1 h7 h8
    subst h0
    subst h1
    subst h7
    subst h8
    co_apply wpC_seq (TT Sh)
    co_reg (TT Sh)
    co_op rl hF (co_quiet (TT Sh))
    co_apply opsC_nil (TT Sh)
    co_then
    co_apply wpC_seq (TT Sh) (n₂ := 0)
    co_split (TT Sh) (decide ((i : Int) < (xs.length : Int)))
    · intro ht
      exact wpC_absurd (by have : i < xs.length := (by simpa using ht); omega)
    · intro ht
      have hil : ¬ i < xs.length := by simpa using ht
      co_apply wpC_exit (TT Sh)
      co_then
      co_apply wpC_seq (TT Sh)
      co_reg (TT Sh)
      co_op rl hF (co_quiet (TT Sh))
      co_apply opsC_nil (TT Sh)
      co_then
      co_apply wpC_ret (TT Sh)
      try co_then
      exact ⟨rfl, _, resultsC_tmp (by rfl) _, ⟨-1, rfl, by rw [anyP_none (fun j hj => hno j (by omega))]; rfl⟩, hF⟩
  · co_apply Exists.intro
    intro w hF
    co_apply callsC_of_wpC Tryd.func24 (by rfl) rfl
    simp only [Tryd.ntmps24, List.size_toArray, List.length_cons, List.length_nil, Nat.reduceAdd, Nat.reduceSub, Array.replicate_succ, Array.replicate_zero, List.push_toArray, List.append_toArray, List.nil_append, List.cons_append]
    co_apply wpC_seq (TT Sh)
    co_reg (TT Sh)
    co_op rl hF (co_quiet (TT Sh))
    co_apply opsC_nil (TT Sh)
    co_then
    co_apply wpC_seq (TT Sh)
    co_apply wpC_seq (TT Sh)
    co_reg (TT Sh)
    co_op rl hF (co_quiet (TT Sh))
    co_op rl hF (co_quiet (TT Sh))
    co_op rl hF (co_quiet (TT Sh))
    co_apply opsC_nil (TT Sh)
    co_then
    co_apply wpC_block (TT Sh)
    co_apply wpC_loop (TT Sh) (fun a' w' => ∃ (T : Array Value) (i : Nat), a' = ⟨T, []⟩ ∧ T.size = 19 ∧ T[0]? = some (.slice (some ⟨b, o, none⟩) xs.length lcap) ∧ T[1]? = some (.func (.func f) #[] cap) ∧ T[7]? = some (.int .i64 xs.length) ∧ T[8]? = some (.int .i64 i) ∧ i ≤ xs.length ∧ (∀ j, j < i → p j = false) ∧ Ext Vn W w') (fun a' _ => xs.length - slotN a' 8) _ (xs.length)
    · exact ⟨_, 0, rfl, rfl, rfl, rfl, rfl, rfl, by omega, fun j hj => absurd hj (by omega), hF⟩
    · simp [slotN]
    clear hF w
    rintro a' w ⟨T, i, rfl, hT, h0, h1, h7, h8, hi, hno, hF⟩
    obtain ⟨v0, v1, v2, v3, v4, v5, v6, v7, v8, v9, v10, v11, v12, v13, v14, v15, v16, v17, v18, rfl⟩ := arr19 T hT
    simp only [List.getElem?_toArray, List.getElem?_cons_zero, List.getElem?_cons_succ, Option.some.injEq] at h0 h1 h7 h8
    subst h0
    subst h1
    subst h7
    subst h8
    co_apply wpC_seq (TT Sh)
    co_reg (TT Sh)
    co_op rl hF (co_quiet (TT Sh))
    co_apply opsC_nil (TT Sh)
    co_then
    co_apply wpC_seq (TT Sh)
    co_split (TT Sh) (decide ((i : Int) < (xs.length : Int)))
    · intro ht
      have hil : i < xs.length := by simpa using ht
      co_apply wpC_skip (TT Sh)
      co_then
      co_apply wpC_seq (TT Sh)
      co_apply wpC_block (TT Sh)
      co_apply wpC_seq (TT Sh)
      obtain ⟨x, hxi⟩ : ∃ x, xs[i]? = some x := ⟨_, List.getElem?_eq_getElem hil⟩
      have hxw := hx x (List.mem_of_getElem? hxi)
      co_reg (TT Sh)
      co_op rl hF (co_quiet (TT Sh))
      co_op rl hF (co_quiet (TT Sh))
      co_apply opsC_nil (TT Sh)
      co_then
      co_apply wpC_seq (TT Sh)
      co_reg (TT Sh)
      co_op rl hF (co_quiet (TT Sh))
      co_op rl hF (co_quiet (TT Sh))
      co_op rl hF (co_quiet (TT Sh))
      co_opw rl hF (skip) (co_still (TT Sh))
      co_opw rl hF (have hc := cell_ext hF (hcs i x hxi)) (refine rd_old hS hF (hcs i x hxi) hxw (fun e he => ?_); have hm := mem_listed he; simp [go_sem, *] at hm; exact hm)
      clear hc
      co_apply opsC_callv (TT Sh) (vo := .tmp 11) (f := f) (cap := cap) (args := #[.tmp 15]) (ats := #[3]) (by rfl) (by rfl) (by rfl) (by rfl) (by simp only [List.map_toArray, List.map_cons, List.map_nil, Act.eval]; exact hkf i x hxi _ hF)
      rintro v w' ⟨rfl, hF⟩
      try walk_nrm
      co_apply opsC_nil (TT Sh)
      co_then
      co_split (TT Sh) (p i)
      · intro ht
        co_apply wpC_seq (TT Sh)
        co_reg (TT Sh)
        co_op rl hF (co_quiet (TT Sh))
        co_op rl hF (co_quiet (TT Sh))
        co_apply opsC_nil (TT Sh)
        co_then
        co_apply wpC_ret (TT Sh)
        try co_then
        exact ⟨rfl, _, resultsC_tmp (by rfl) _, ⟨(i : Int), rfl, by rw [anyP_some hil ht]; exact decide_eq_true (by omega)⟩, hF⟩
      · intro ht
        co_apply wpC_skip (TT Sh)
        co_then
        co_reg (TT Sh)
        co_op rl hF (co_quiet (TT Sh))
        co_op rl hF (co_quiet (TT Sh))
        co_apply opsC_nil (TT Sh)
        co_then
        have hwr : IntKind.i64.wrap ((i : Int) + 1) = ((i + 1 : Nat) : Int) := by rw [IntKind.wrap_i64]; omega
        refine ⟨⟨_, i + 1, rfl, rfl, rfl, rfl, rfl, by simp [hwr], by omega, fun j hj => ?_, hF⟩, ?_⟩
        · by_cases e : j = i
          · rw [e]; exact ht
          · exact hno j (by omega)
        · simp [slotN, hwr]; omega
    · intro ht
      have hil : ¬ i < xs.length := by simpa using ht
      co_apply wpC_exit (TT Sh)
      co_then
      co_apply wpC_seq (TT Sh)
      co_reg (TT Sh)
      co_op rl hF (co_quiet (TT Sh))
      co_apply opsC_nil (TT Sh)
      co_then
      co_apply wpC_ret (TT Sh)
      try co_then
      exact ⟨rfl, _, resultsC_tmp (by rfl) _, ⟨-1, rfl, by rw [anyP_none (fun j hj => hno j (by omega))]; rfl⟩, hF⟩
set_option maxRecDepth 100000 in
set_option maxHeartbeats 2000000 in
theorem c_conIp {Sh : Loc → Prop} {W : World} {main : Bool} (hS : ShOk Sh W) {al : Option Addr} {xs : List Value} (lcap : Nat) (hp : VRow W al xs) (hpl : xs.length ≤ 17179869184) (hx : ∀ u ∈ xs, notWg u = true) {f : FuncId} {cap : Array Value} {p : Nat → Bool} (hf : ∃ kf, ∀ (i : Nat) (x : Value), xs[i]? = some x → ∀ w, Ext Vn W w → CallsC Tryd.prog main (Ext Vn) (HDq (Cx0 Sh)) f (#[x] ++ cap) kf w (fun r w' => r = .bool (p i) ∧ Ext Vn W w')) :
    ∃ k, ∀ w, Ext Vn W w → CallsC Tryd.prog main (Ext Vn) (HDq (Cx0 Sh)) 13 #[.slice al xs.length lcap, .func (.func f) #[] cap] k w (fun r w' => r = .bool (anyP p xs.length) ∧ Ext Vn W w') := by
  have rl : ∀ {w w' : World}, Ext Vn W w → Ext Vn w w' → Ext Vn W w' := fun h r => h.trans r
  obtain ⟨k, hk⟩ := c_idxIp (main := main) hS lcap hp hpl hx hf
  co_apply Exists.intro
  intro w hF
  co_apply callsC_of_wpC Tryd.func13 (by rfl) rfl
  simp only [Tryd.ntmps13, List.size_toArray, List.length_cons, List.length_nil, Nat.reduceAdd, Nat.reduceSub, Array.replicate_succ, Array.replicate_zero, List.push_toArray, List.append_toArray, List.nil_append, List.cons_append]
  co_apply wpC_seq (TT Sh)
  co_reg (TT Sh)
  co_op rl hF (co_quiet (TT Sh))
  co_apply opsC_nil (TT Sh)
  co_then
  co_apply wpC_seq (TT Sh)
  co_reg (TT Sh)
  co_op rl hF (co_quiet (TT Sh))
  co_op rl hF (co_quiet (TT Sh))
  co_apply opsC_call (TT Sh) (f := 24) (args := #[.tmp 5, .tmp 6]) (ats := #[29, 41]) (by rfl) (by rfl) (by rfl) (by simp only [List.map_toArray, List.map_cons, List.map_nil, Act.eval]; exact hk _ hF)
  rintro v w' ⟨⟨z, rfl, hz⟩, hF⟩
  try walk_nrm
  co_op rl hF (co_quiet (TT Sh))
  co_op rl hF (co_quiet (TT Sh))
  co_apply opsC_nil (TT Sh)
  co_then
  co_apply wpC_ret (TT Sh)
  try co_then
  exact ⟨rfl, _, resultsC_tmp (by rfl) _, by simp [← hz], hF⟩
set_option maxRecDepth 100000 in
set_option maxHeartbeats 2000000 in
theorem c_run1n {Sh : Loc → Prop} {W : World} {main : Bool} : ∃ k, ∀ (w : World), Ext Vn W w → CallsC Tryd.prog main (Ext Vn) (HDq (Cx0 Sh)) 12 #[.nilIface] k w (fun r w' => r = .bool true ∧ Ext Vn W w') := by
  have rl : ∀ {w w' : World}, Ext Vn W w → Ext Vn w w' → Ext Vn W w' := fun h r => h.trans r
  co_apply Exists.intro
  intro w hF
  co_apply callsC_of_wpC Tryd.func12 (by rfl) rfl
  simp only [Tryd.ntmps12, List.size_toArray, List.length_cons, List.length_nil, Nat.reduceAdd, Nat.reduceSub, Array.replicate_succ, Array.replicate_zero, List.push_toArray, List.append_toArray, List.nil_append, List.cons_append]
  co_apply wpC_seq (TT Sh)
  co_reg (TT Sh)
  co_op rl hF (co_quiet (TT Sh))
  co_apply opsC_nil (TT Sh)
  co_then
  co_apply wpC_seq (TT Sh)
  co_reg (TT Sh)
  co_op rl hF (co_quiet (TT Sh))
  co_opw rl hF (have hq1 := ev_nn) (co_still (TT Sh))
  clear hq1
  co_op rl hF (co_quiet (TT Sh))
  co_apply opsC_nil (TT Sh)
  co_then
  co_apply wpC_ret (TT Sh)
  try co_then
  exact ⟨rfl, _, resultsC_tmp (by rfl) _, rfl, hF⟩
set_option maxRecDepth 100000 in
set_option maxHeartbeats 2000000 in
theorem c_run2n {Sh : Loc → Prop} {W : World} {main : Bool} : ∃ k, ∀ (i : Int) (tb : Nat) (w : World), i < 0 → Ext Vn W w → CallsC Tryd.prog main (Ext Vn) (HDq (Cx0 Sh)) 14 #[.int .i64 i, .pointer (some ⟨tb, 0, none⟩)] k w (fun r w' => r = .bool true ∧ Ext Vn W w') := by
  have rl : ∀ {w w' : World}, Ext Vn W w → Ext Vn w w' → Ext Vn W w' := fun h r => h.trans r
  co_apply Exists.intro
  intro i tb w hin hF
  have h2 : (decide (i < 0)) = true := decide_eq_true hin
  co_apply callsC_of_wpC Tryd.func14 (by rfl) rfl
  simp only [Tryd.ntmps14, List.size_toArray, List.length_cons, List.length_nil, Nat.reduceAdd, Nat.reduceSub, Array.replicate_succ, Array.replicate_zero, List.push_toArray, List.append_toArray, List.nil_append, List.cons_append]
  co_apply wpC_seq (TT Sh)
  co_reg (TT Sh)
  co_op rl hF (co_quiet (TT Sh))
  co_apply opsC_nil (TT Sh)
  co_then
  co_apply wpC_seq (TT Sh)
  co_reg (TT Sh)
  co_op rl hF (co_quiet (TT Sh))
  co_opw rl hF (skip) (co_still (TT Sh))
  try simp only [h2]
  co_op rl hF (co_quiet (TT Sh))
  co_apply opsC_unwanted (TT Sh) rfl (by rfl)
  try walk_nrm
  co_apply opsC_unwanted (TT Sh) rfl (by rfl)
  try walk_nrm
  co_apply opsC_unwanted (TT Sh) rfl (by rfl)
  try walk_nrm
  co_apply opsC_unwanted (TT Sh) rfl (by rfl)
  try walk_nrm
  co_op rl hF (co_quiet (TT Sh))
  co_op rl hF (co_quiet (TT Sh))
  co_apply opsC_nil (TT Sh)
  co_then
  co_apply wpC_ret (TT Sh)
  try co_then
  exact ⟨rfl, _, resultsC_tmp (by rfl) _, rfl, hF⟩
set_option maxRecDepth 100000 in
set_option maxHeartbeats 2000000 in
theorem c_run2b {Sh : Loc → Prop} {W : World} {main : Bool} (hS : ShOk Sh W) {tb n : Nat} {al : Option Addr} {cap : Nat} (htb : W.cell? ⟨tb, 0, none⟩ = some (.slice al n cap)) : ∃ k, ∀ (i : Nat) (w : World), Ext Vn W w → CallsC Tryd.prog main (Ext Vn) (HDq (Cx0 Sh)) 14 #[.int .i64 i, .pointer (some ⟨tb, 0, none⟩)] k w (fun r w' => r = .bool (decide (n ≤ i)) ∧ Ext Vn W w') := by
  have rl : ∀ {w w' : World}, Ext Vn W w → Ext Vn w w' → Ext Vn W w' := fun h r => h.trans r
  co_apply Exists.intro
  intro i w hF
  have h2 : (decide ((i : Int) < 0)) = false := decide_eq_false (by omega)
  co_apply callsC_of_wpC Tryd.func14 (by rfl) rfl
  simp only [Tryd.ntmps14, List.size_toArray, List.length_cons, List.length_nil, Nat.reduceAdd, Nat.reduceSub, Array.replicate_succ, Array.replicate_zero, List.push_toArray, List.append_toArray, List.nil_append, List.cons_append]
  co_apply wpC_seq (TT Sh)
  co_reg (TT Sh)
  co_op rl hF (co_quiet (TT Sh))
  co_apply opsC_nil (TT Sh)
  co_then
  co_apply wpC_seq (TT Sh)
  co_reg (TT Sh)
  co_op rl hF (co_quiet (TT Sh))
  co_opw rl hF (skip) (co_still (TT Sh))
  try simp only [h2]
  co_op rl hF (co_quiet (TT Sh))
  co_op rl hF (co_quiet (TT Sh))
  co_opw rl hF (have hc := cell_ext hF (htb)) (refine rd_old hS hF (htb) (by rfl) (fun e he => ?_); have hm := mem_listed he; simp [go_sem, *] at hm; exact hm)
  clear hc
  co_op rl hF (co_quiet (TT Sh))
  co_opw rl hF (skip) (co_still (TT Sh))
  co_op rl hF (co_quiet (TT Sh))
  co_op rl hF (co_quiet (TT Sh))
  co_apply opsC_nil (TT Sh)
  co_then
  co_apply wpC_ret (TT Sh)
  try co_then
  exact ⟨rfl, _, resultsC_tmp (by rfl) _, by simp, hF⟩
end
end Go.Proofs.YtggfcdhkgldbfaaDoor
