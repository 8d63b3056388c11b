/-
  PARTS of a claim, merged by segs.py: NwSam.
-/
import Derived.Test.YtggfcdhkgldbfaaN27
import Derived.Laws.StructEq
namespace Go.Proofs.Ytggfcdhkgldbfaa
set_option linter.unusedSimpArgs false
set_option linter.unusedVariables false

/-! ### NwSam -/
section
set_option linter.unusedSimpArgs false
open Go Go.Conc Go.RowKit Go.ConcR.Gen Cw

/-- A row of events in memory. -/
def EvRow (w : World) (a : Option Addr) (E : List (Int × ByteArray)) : Prop := E = [] ∨ ∃ b o, a = some ⟨b, o, none⟩ ∧ ∀ (k : Nat) (x : Int × ByteArray), E[k]? = some x → w.cell? ⟨b, o + k * 2, none⟩ = some (.int .i64 x.1) ∧ w.cell? ⟨b, o + k * 2 + 1, none⟩ = some (.string x.2)
def evq (i : Int) (s : ByteArray) (i' : Int) (s' : ByteArray) : Bool := i == i' && s.toList == s'.toList
theorem evq_iff {i i' : Int} {s s' : ByteArray} : evq i s i' s' = true ↔ (i, s) = (i', s') := by
  obtain ⟨⟨s⟩⟩ := s
  obtain ⟨⟨s'⟩⟩ := s'
  have e1 : (⟨⟨s⟩⟩ : ByteArray).toList = s := ByteArray.toList_eq _
  have e2 : (⟨⟨s'⟩⟩ : ByteArray).toList = s' := ByteArray.toList_eq _
  simp [evq, e1, e2]
theorem guardEv : Try.prog.eqGuardType Try.prog.depth 41 = false := by kernel_rfl
theorem heldEv : Try.prog.stoodInHeld 41 = false := by kernel_rfl
theorem structEv : Try.prog.underlying 41 = some (.struct (Try.prog.fieldsOf 41)) := by kernel_rfl
theorem eq_ev (i : Int) (s : ByteArray) (i' : Int) (s' : ByteArray) (w : World) : (Op.equalIn 10000 41 (.agg #[.int .i64 i, .string s]) (.agg #[.int .i64 i', .string s'])).run Try.prog w = .ok (evq i s i' s') w := by
  rw [run_equalIn_agg w 9999 _ _ _ structEv heldEv]
  simp [go_sem, Try.underlying41, Try.underlying3, Try.underlying9]
  unfold evq
  by_cases h1 : i = i' <;> by_cases h3 : s.toList = s'.toList <;> simp [h1, h3]
theorem ee1 (n : Nat) (i i' : Int) (w : World) (es : Array Event) : (Op.equalIn (n+1) 3 (.int .i64 i) (.int .i64 i')).events Try.prog w es = es := by
  unfold Op.equalIn
  simp [go_sem, Try.underlying3]
theorem ee2 (n : Nat) (i i' : ByteArray) (w : World) (es : Array Event) : (Op.equalIn (n+1) 9 (.string i) (.string i')).events Try.prog w es = es := by
  unfold Op.equalIn
  simp [go_sem, Try.underlying9]
theorem ee3 (i : Int) (s : ByteArray) (i' : Int) (s' : ByteArray) (w : World) (es : Array Event) : (eqGuard .neq 41 (.tmp 19) (.tmp 23) (.agg #[.int .i64 i, .string s]) (.agg #[.int .i64 i', .string s'])).events Try.prog w es = es := by
  simp [eqGuard, go_sem, guardEv, run_program]
theorem ee4 (n : Nat) (i : Int) (s : ByteArray) (i' : Int) (s' : ByteArray) (w : World) (es : Array Event) : (Op.equalIn (n+1+1) 41 (.agg #[.int .i64 i, .string s]) (.agg #[.int .i64 i', .string s'])).events Try.prog w es = es := by
  rw [Op.equalIn]
  simp only [Sem.events_bind, run_underlying Try.underlying41, events_underlying, Result.evThen_ok, run_program, heldEv]
  simp [go_sem, Try.underlying41, heldEv, run_program, ee1, ee2]
theorem ev_neq (i : Int) (s : ByteArray) (i' : Int) (s' : ByteArray) (w : World) (es : Array Event) : (binOp .neq 41 (.agg #[.int .i64 i, .string s]) (.agg #[.int .i64 i', .string s'])).events Try.prog w es = es := by
  have h := ee4 9998 i s i' s' w es
  have h2 := eq_ev i s i' s' w
  simp only [binOp]
  simp [Op.equal, Op.maxDepth, go_sem, h, h2]
set_option maxRecDepth 100000 in
set_option maxHeartbeats 2000000 in
theorem c_same_eq {Sh : Loc → Prop} {W : World} {main : Bool} (hS : ShOk Sh W) {a1 a2 : Option Addr} {E1 E2 : List (Int × ByteArray)} (n c1 c2 : Nat) (h1 : EvRow W a1 E1) (h2 : EvRow W a2 E2) (hn1 : E1.length ≤ n ∧ n ≤ E1.length) (hn2 : E2.length ≤ n ∧ n ≤ E2.length) (hl1 : n ≤ 17179869184) :
    ∃ k, ∀ w, Ext Vn W w → CallsC Try.prog main (Ext Vn) (HDq (Cx0 Sh)) 12 #[.slice a1 n c1, .slice a2 n c2] k w (fun r w' => r = .bool (decide (E1 = E2)) ∧ Ext Vn W w') := by
  have rl : ∀ {w w' : World}, Ext Vn W w → Ext Vn w w' → Ext Vn W w' := fun h r => h.trans r
  by_cases he : n = 0
  · have hL0 : n ≤ 0 := by omega
    clear he h1 h2
    co_apply Exists.intro
    intro w hF
    co_apply callsC_of_wpC Try.func12 (by rfl) rfl
    simp only [Try.ntmps12, List.size_toArray, List.length_cons, List.length_nil, Nat.reduceAdd, Nat.reduceSub, Array.replicate_succ, Array.replicate_zero, List.push_toArray, List.append_toArray, List.nil_append, List.cons_append]
    co_apply wpC_seq (TT Sh)
    co_reg (TT Sh)
    co_op rl hF (co_quiet (TT Sh))
    co_apply opsC_nil (TT Sh)
    co_then
    co_apply wpC_seq (TT Sh)
    co_apply wpC_seq (TT Sh)
    co_reg (TT Sh)
    co_op rl hF (co_quiet (TT Sh))
    co_op rl hF (co_quiet (TT Sh))
    co_op rl hF (co_quiet (TT Sh))
    co_op rl hF (co_quiet (TT Sh))
    co_op rl hF (co_quiet (TT Sh))
    co_apply opsC_nil (TT Sh)
    co_then
    co_apply wpC_cond (TT Sh) (t := false)
    · simp [Act.eval]
    simp only [if_false, reduceIte, Bool.false_eq_true]
    co_apply wpC_skip (TT Sh)
    co_then
    co_apply wpC_seq (TT Sh)
    co_apply wpC_seq (TT Sh)
    co_reg (TT Sh)
    co_op rl hF (co_quiet (TT Sh))
    co_op rl hF (co_quiet (TT Sh))
    co_op rl hF (co_quiet (TT Sh))
    co_apply opsC_nil (TT Sh)
    co_then
    co_apply wpC_block (TT Sh)
    co_apply wpC_loop (TT Sh) (fun a' w' => ∃ (T : Array Value) (i : Nat), a' = ⟨T, []⟩ ∧ T.size = 26 ∧ T[0]? = some (.slice a1 n c1) ∧ T[1]? = some (.slice a2 n c2) ∧ T[4]? = some (.bool false) ∧ T[12]? = some (.int .i64 n) ∧ T[13]? = some (.int .i64 i) ∧ i ≤ n ∧ E1.take i = E2.take i ∧ Ext Vn W w') (fun a' _ => n - slotN a' 13) _ (n)
    · exact ⟨_, 0, rfl, rfl, rfl, rfl, rfl, rfl, rfl, by omega, rfl, hF⟩
    · simp [slotN]
    clear hF w
    rintro a' w ⟨T, i, rfl, hT, h0, h1, h4, h12, h13, hi, heq, hF⟩
    obtain ⟨v0, v1, v2, v3, v4, v5, v6, v7, v8, v9, v10, v11, v12, v13, v14, v15, v16, v17, v18, v19, v20, v21, v22, v23, v24, v25, rfl⟩ := arr26 T hT
    simp only [List.getElem?_toArray, List.getElem?_cons_zero, List.getElem?_cons_succ, Option.some.injEq] at h0 h1 h4 h12 h13
    subst h0
    subst h1
    subst h4
    subst h12
    subst h13
    co_apply wpC_seq (TT Sh)
    co_reg (TT Sh)
    co_op rl hF (co_quiet (TT Sh))
    co_apply opsC_nil (TT Sh)
    co_then
    co_apply wpC_seq (TT Sh) (n₂ := 0)
    co_split (TT Sh) (decide ((i : Int) < (n : Int)))
    · intro ht
      exact wpC_absurd (by have : i < n := (by simpa using ht); omega)
    · intro ht
      have hil : i = n := by have : ¬ i < n := (by simpa using ht); omega
      co_apply wpC_exit (TT Sh)
      co_then
      co_apply wpC_seq (TT Sh)
      co_reg (TT Sh)
      co_op rl hF (co_quiet (TT Sh))
      co_apply opsC_nil (TT Sh)
      co_then
      co_apply wpC_ret (TT Sh)
      try co_then
      refine ⟨rfl, _, resultsC_tmp (by rfl) _, ?_, hF⟩
      rw [List.take_of_length_le (by omega), List.take_of_length_le (by omega)] at heq
      simp [heq]
  · obtain ⟨b1, o1, rfl, hcs1⟩ := h1.resolve_left (fun e => he (by rw [e] at hn1; simp at hn1; omega))
    obtain ⟨b2, o2, rfl, hcs2⟩ := h2.resolve_left (fun e => he (by rw [e] at hn2; simp at hn2; omega))
    clear he
    co_apply Exists.intro
    intro w hF
    co_apply callsC_of_wpC Try.func12 (by rfl) rfl
    simp only [Try.ntmps12, List.size_toArray, List.length_cons, List.length_nil, Nat.reduceAdd, Nat.reduceSub, Array.replicate_succ, Array.replicate_zero, List.push_toArray, List.append_toArray, List.nil_append, List.cons_append]
    co_apply wpC_seq (TT Sh)
    co_reg (TT Sh)
    co_op rl hF (co_quiet (TT Sh))
    co_apply opsC_nil (TT Sh)
    co_then
    co_apply wpC_seq (TT Sh)
    co_apply wpC_seq (TT Sh)
    co_reg (TT Sh)
    co_op rl hF (co_quiet (TT Sh))
    co_op rl hF (co_quiet (TT Sh))
    co_op rl hF (co_quiet (TT Sh))
    co_op rl hF (co_quiet (TT Sh))
    co_op rl hF (co_quiet (TT Sh))
    co_apply opsC_nil (TT Sh)
    co_then
    co_apply wpC_cond (TT Sh) (t := false)
    · simp [Act.eval]
    simp only [if_false, reduceIte, Bool.false_eq_true]
    co_apply wpC_skip (TT Sh)
    co_then
    co_apply wpC_seq (TT Sh)
    co_apply wpC_seq (TT Sh)
    co_reg (TT Sh)
    co_op rl hF (co_quiet (TT Sh))
    co_op rl hF (co_quiet (TT Sh))
    co_op rl hF (co_quiet (TT Sh))
    co_apply opsC_nil (TT Sh)
    co_then
    co_apply wpC_block (TT Sh)
    co_apply wpC_loop (TT Sh) (fun a' w' => ∃ (T : Array Value) (i : Nat), a' = ⟨T, []⟩ ∧ T.size = 26 ∧ T[0]? = some (.slice (some ⟨b1, o1, none⟩) n c1) ∧ T[1]? = some (.slice (some ⟨b2, o2, none⟩) n c2) ∧ T[4]? = some (.bool false) ∧ T[12]? = some (.int .i64 n) ∧ T[13]? = some (.int .i64 i) ∧ i ≤ n ∧ E1.take i = E2.take i ∧ Ext Vn W w') (fun a' _ => n - slotN a' 13) _ (n)
    · exact ⟨_, 0, rfl, rfl, rfl, rfl, rfl, rfl, rfl, by omega, rfl, hF⟩
    · simp [slotN]
    clear hF w
    rintro a' w ⟨T, i, rfl, hT, h0, h1, h4, h12, h13, hi, heq, hF⟩
    obtain ⟨v0, v1, v2, v3, v4, v5, v6, v7, v8, v9, v10, v11, v12, v13, v14, v15, v16, v17, v18, v19, v20, v21, v22, v23, v24, v25, rfl⟩ := arr26 T hT
    simp only [List.getElem?_toArray, List.getElem?_cons_zero, List.getElem?_cons_succ, Option.some.injEq] at h0 h1 h4 h12 h13
    subst h0
    subst h1
    subst h4
    subst h12
    subst h13
    co_apply wpC_seq (TT Sh)
    co_reg (TT Sh)
    co_op rl hF (co_quiet (TT Sh))
    co_apply opsC_nil (TT Sh)
    co_then
    co_apply wpC_seq (TT Sh)
    co_split (TT Sh) (decide ((i : Int) < (n : Int)))
    · intro ht
      have hil : i < n := by simpa using ht
      co_apply wpC_skip (TT Sh)
      co_then
      co_apply wpC_seq (TT Sh)
      co_apply wpC_block (TT Sh)
      co_apply wpC_seq (TT Sh)
      obtain ⟨x, hxi⟩ : ∃ x, E1[i]? = some x := ⟨_, List.getElem?_eq_getElem (by omega)⟩
      obtain ⟨y, hyi⟩ : ∃ y, E2[i]? = some y := ⟨_, List.getElem?_eq_getElem (by omega)⟩
      co_reg (TT Sh)
      co_op rl hF (co_quiet (TT Sh))
      co_op rl hF (co_quiet (TT Sh))
      co_apply opsC_nil (TT Sh)
      co_then
      co_apply wpC_seq (TT Sh)
      co_held (TT Sh) (lets0 Sh) draw_ext (fun w => Ext Vn W w) rl hF
      co_take 0 (TT Sh) rl hF hw (skip) (co_quiet (TT Sh))
      co_take 1 (TT Sh) rl hF hw (skip) (co_quiet (TT Sh))
      co_take 2 (TT Sh) rl hF hw (skip) (co_still (TT Sh))
      co_take 3 (TT Sh) rl hF hw (have hc0 := cell_ext hw (hcs1 i x hxi).1; have hc1 := cell_ext hw (hcs1 i x hxi).2) (refine hdq_read (fun e he => ?_); have hm := mem_listed he; simp [go_sem, *] at hm; rcases hm with rfl | rfl; exact ⟨_, rfl, block_of_cell hc0, sh_no hS (hcs1 i x hxi).1 (by rfl)⟩; exact ⟨_, rfl, block_of_cell hc1, sh_no hS (hcs1 i x hxi).2 (by rfl)⟩)
      co_take 4 (TT Sh) rl hF hw (skip) (co_quiet (TT Sh))
      co_take 5 (TT Sh) rl hF hw (skip) (co_quiet (TT Sh))
      co_take 6 (TT Sh) rl hF hw (skip) (co_still (TT Sh))
      co_take 7 (TT Sh) rl hF hw (have hc0 := cell_ext hw (hcs2 i y hyi).1; have hc1 := cell_ext hw (hcs2 i y hyi).2) (refine hdq_read (fun e he => ?_); have hm := mem_listed he; simp [go_sem, *] at hm; rcases hm with rfl | rfl; exact ⟨_, rfl, block_of_cell hc0, sh_no hS (hcs2 i y hyi).1 (by rfl)⟩; exact ⟨_, rfl, block_of_cell hc1, sh_no hS (hcs2 i y hyi).2 (by rfl)⟩)
      co_take 8 (TT Sh) rl hF hw (have hq := eq_ev x.1 x.2 y.1 y.2; have hg := guardEv; have hqe := ev_neq x.1 x.2 y.1 y.2; have hge := ee3 x.1 x.2 y.1 y.2) (rw [listed_nil (by simp [go_sem, *])]; exact Terms.idle (TT Sh) _)
      co_done
      co_split (TT Sh) (!(evq x.1 x.2 y.1 y.2))
      · intro ht
        co_apply wpC_seq (TT Sh)
        co_reg (TT Sh)
        co_op rl hF (co_quiet (TT Sh))
        co_apply opsC_nil (TT Sh)
        co_then
        co_apply wpC_ret (TT Sh)
        try co_then
        refine ⟨rfl, _, resultsC_tmp (by rfl) _, ?_, hF⟩
        have hne : decide (E1 = E2) = false := decide_eq_false fun e => by
          rw [e, hyi] at hxi
          have := evq_iff.2 (show (x.1, x.2) = (y.1, y.2) by rw [Option.some.inj hxi])
          rw [this] at ht
          cases ht
        rw [hne]
        try rfl
      · intro ht
        co_apply wpC_skip (TT Sh)
        co_then
        co_reg (TT Sh)
        co_op rl hF (co_quiet (TT Sh))
        co_op rl hF (co_quiet (TT Sh))
        co_apply opsC_nil (TT Sh)
        co_then
        have hwr : IntKind.i64.wrap ((i : Int) + 1) = ((i + 1 : Nat) : Int) := by rw [IntKind.wrap_i64]; omega
        have hxy : x = y := by
          have : evq x.1 x.2 y.1 y.2 = true := by simpa using ht
          exact evq_iff.1 this
        refine ⟨⟨_, i + 1, rfl, rfl, rfl, rfl, rfl, rfl, by simp [hwr], by omega, ?_, hF⟩, ?_⟩
        · rw [List.take_add_one, List.take_add_one, hxi, hyi, heq, hxy]
        · simp [slotN, hwr]; omega
    · intro ht
      have hil : i = n := by have : ¬ i < n := (by simpa using ht); omega
      co_apply wpC_exit (TT Sh)
      co_then
      co_apply wpC_seq (TT Sh)
      co_reg (TT Sh)
      co_op rl hF (co_quiet (TT Sh))
      co_apply opsC_nil (TT Sh)
      co_then
      co_apply wpC_ret (TT Sh)
      try co_then
      refine ⟨rfl, _, resultsC_tmp (by rfl) _, ?_, hF⟩
      rw [List.take_of_length_le (by omega), List.take_of_length_le (by omega)] at heq
      simp [heq]
set_option maxRecDepth 100000 in
set_option maxHeartbeats 2000000 in
theorem c_same_ne {Sh : Loc → Prop} {W : World} {main : Bool} (a1 a2 : Option Addr) {E1 E2 : List (Int × ByteArray)} (n1 n2 c1 c2 : Nat) (hne : ¬ n1 = n2) (hE : decide (E1 = E2) = false) :
    ∃ k, ∀ w, Ext Vn W w → CallsC Try.prog main (Ext Vn) (HDq (Cx0 Sh)) 12 #[.slice a1 n1 c1, .slice a2 n2 c2] k w (fun r w' => r = .bool (decide (E1 = E2)) ∧ Ext Vn W w') := by
  have rl : ∀ {w w' : World}, Ext Vn W w → Ext Vn w w' → Ext Vn W w' := fun h r => h.trans r
  co_apply Exists.intro
  intro w hF
  co_apply callsC_of_wpC Try.func12 (by rfl) rfl
  simp only [Try.ntmps12, List.size_toArray, List.length_cons, List.length_nil, Nat.reduceAdd, Nat.reduceSub, Array.replicate_succ, Array.replicate_zero, List.push_toArray, List.append_toArray, List.nil_append, List.cons_append]
  co_apply wpC_seq (TT Sh)
  co_reg (TT Sh)
  co_op rl hF (co_quiet (TT Sh))
  co_apply opsC_nil (TT Sh)
  co_then
  co_apply wpC_seq (TT Sh) (n₂ := 0)
  co_apply wpC_seq (TT Sh)
  co_reg (TT Sh)
  co_op rl hF (co_quiet (TT Sh))
  co_op rl hF (co_quiet (TT Sh))
  co_op rl hF (co_quiet (TT Sh))
  co_op rl hF (co_quiet (TT Sh))
  co_op rl hF (co_quiet (TT Sh))
  co_apply opsC_nil (TT Sh)
  co_then
  co_apply wpC_cond (TT Sh) (t := true)
  · simp [Act.eval]; omega
  simp only [if_true, reduceIte]
  co_apply wpC_seq (TT Sh)
  co_reg (TT Sh)
  co_op rl hF (co_quiet (TT Sh))
  co_apply opsC_nil (TT Sh)
  co_then
  co_apply wpC_ret (TT Sh)
  try co_then
  refine ⟨rfl, _, resultsC_tmp (by rfl) _, ?_, hF⟩
  rw [hE]
  try rfl
theorem c_same {Sh : Loc → Prop} {W : World} {main : Bool} (hS : ShOk Sh W) {a1 a2 : Option Addr} {E1 E2 : List (Int × ByteArray)} (c1 c2 : Nat) (h1 : EvRow W a1 E1) (h2 : EvRow W a2 E2) (hl1 : E1.length ≤ 17179869184) :
    ∃ k, ∀ w, Ext Vn W w → CallsC Try.prog main (Ext Vn) (HDq (Cx0 Sh)) 12 #[.slice a1 E1.length c1, .slice a2 E2.length c2] k w (fun r w' => r = .bool (decide (E1 = E2)) ∧ Ext Vn W w') := by
  by_cases h : E1.length = E2.length
  · rw [h]
    exact c_same_eq hS _ c1 c2 h1 h2 (by omega) (by omega) (by omega)
  · exact c_same_ne a1 a2 _ _ c1 c2 h (decide_eq_false fun e => h (by rw [e]))
end
end Go.Proofs.Ytggfcdhkgldbfaa
