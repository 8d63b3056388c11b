/-
  PARTS of a claim, merged by segs.py: NwFew.
-/
import Derived.Test.YtggfcdhkgldbfaaN26
namespace Go.Proofs.Ytggfcdhkgldbfaa
set_option linter.unusedSimpArgs false
set_option linter.unusedVariables false

/-! ### NwFew -/
section
set_option linter.unusedSimpArgs false
open Go Go.Conc Go.RowKit Go.ConcR.Gen Cw

def fewB (np : Nat) (L : List (List ByteArray)) : Bool := L.all (fun S => S.length ≤ 20) && (np ≤ 100 && L.length ≤ 10)
set_option maxRecDepth 100000 in
set_option maxHeartbeats 2000000 in
theorem c_few {Sh : Loc → Prop} {W : World} {main : Bool} (hS : ShOk Sh W) (a : Option Addr) (np pcap : Nat) {v : Value} {L : List (List ByteArray)} (hL : StrRows W v L) (hn : L.length < 9223372036854775807) (hln : ∀ S ∈ L, S.length < 9223372036854775807) (hnp : np < 9223372036854775807) :
    ∃ k, ∀ w, Ext Vn W w → CallsC Try.prog main (Ext Vn) (HDq (Cx0 Sh)) 8 #[.slice a np pcap, v] k w (fun r w' => r = .bool (fewB np L) ∧ Ext Vn W w') := by
  obtain ⟨al, lcap, rfl, hL⟩ := hL
  have rl : ∀ {w w' : World}, Ext Vn W w → Ext Vn w w' → Ext Vn W w' := fun h r => h.trans r
  rcases hL with hL | ⟨p, o, rfl, hcs⟩
  · have hL0 : L.length ≤ 0 := by rw [hL]; simp
    clear hL
    by_cases hb : np ≤ 100
    · have hb1 : (decide ((np : Int) ≤ 100)) = true := by simp; omega
      co_apply Exists.intro
      intro w hF
      co_apply callsC_of_wpC Try.func8 (by rfl) rfl
      simp only [Try.ntmps8, List.size_toArray, List.length_cons, List.length_nil, Nat.reduceAdd, Nat.reduceSub, Array.replicate_succ, Array.replicate_zero, List.push_toArray, List.append_toArray, List.nil_append, List.cons_append]
      co_apply wpC_seq (TT Sh)
      co_reg (TT Sh)
      co_op rl hF (co_quiet (TT Sh))
      co_apply opsC_nil (TT Sh)
      co_then
      co_apply wpC_seq (TT Sh)
      co_apply wpC_seq (TT Sh)
      co_reg (TT Sh)
      co_op rl hF (co_quiet (TT Sh))
      co_op rl hF (co_quiet (TT Sh))
      co_op rl hF (co_quiet (TT Sh))
      co_apply opsC_nil (TT Sh)
      co_then
      co_apply wpC_block (TT Sh)
      co_apply wpC_loop (TT Sh) (fun a' w' => ∃ (T : Array Value) (i : Nat), a' = ⟨T, []⟩ ∧ T.size = 25 ∧ T[0]? = some (.slice a np pcap) ∧ T[1]? = some (.slice al L.length lcap) ∧ T[4]? = some (.bool false) ∧ T[7]? = some (.slice al L.length lcap) ∧ T[8]? = some (.int .i64 L.length) ∧ T[9]? = some (.int .i64 i) ∧ i ≤ L.length ∧ (∀ S ∈ L.take i, S.length ≤ 20) ∧ Ext Vn W w') (fun a' _ => L.length - slotN a' 9) _ (L.length)
      · exact ⟨_, 0, rfl, rfl, rfl, rfl, rfl, rfl, rfl, rfl, by omega, by simp, hF⟩
      · simp [slotN]
      clear hF w
      rintro a' w ⟨T, i, rfl, hT, h0, h1, h4, h7, h8, h9, hi, hall, hF⟩
      obtain ⟨v0, v1, v2, v3, v4, v5, v6, v7, v8, v9, v10, v11, v12, v13, v14, v15, v16, v17, v18, v19, v20, v21, v22, v23, v24, rfl⟩ := arr25 T hT
      simp only [List.getElem?_toArray, List.getElem?_cons_zero, List.getElem?_cons_succ, Option.some.injEq] at h0 h1 h4 h7 h8 h9
      subst h0
      subst h1
      subst h4
      subst h7
      subst h8
      subst h9
      co_apply wpC_seq (TT Sh)
      co_reg (TT Sh)
      co_op rl hF (co_quiet (TT Sh))
      co_apply opsC_nil (TT Sh)
      co_then
      co_apply wpC_seq (TT Sh) (n₂ := 0)
      co_split (TT Sh) (decide ((i : Int) < (L.length : Int)))
      · intro ht
        exact wpC_absurd (by have : i < L.length := (by simpa using ht); omega)
      · intro ht
        have hil : i = L.length := by have : ¬ i < L.length := (by simpa using ht); omega
        co_apply wpC_exit (TT Sh)
        co_then
        co_apply wpC_seq (TT Sh)
        co_reg (TT Sh)
        co_op rl hF (co_quiet (TT Sh))
        co_op rl hF (co_quiet (TT Sh))
        co_op rl hF (co_quiet (TT Sh))
        co_op rl hF (co_quiet (TT Sh))
        co_op rl hF (co_quiet (TT Sh))
        co_op rl hF (co_quiet (TT Sh))
        co_op rl hF (co_quiet (TT Sh))
        co_op rl hF (co_quiet (TT Sh))
        co_op rl hF (co_quiet (TT Sh))
        co_apply opsC_nil (TT Sh)
        co_then
        co_apply wpC_ret (TT Sh)
        try co_then
        refine ⟨rfl, _, resultsC_tmp (by rfl) _, ?_, hF⟩
        have hal : L.all (fun S => S.length ≤ 20) = true := by
          rw [List.all_eq_true]
          intro S hS
          have := hall S (by rw [List.take_of_length_le (by omega)]; exact hS)
          simpa using this
        unfold fewB
        rw [hal, Bool.true_and]
        rw [decide_eq_true hb, Bool.true_and]
        exact congrArg Value.bool (decide_eq_decide.2 (by omega))
    · have hb1 : (decide ((np : Int) ≤ 100)) = false := by simp; omega
      co_apply Exists.intro
      intro w hF
      co_apply callsC_of_wpC Try.func8 (by rfl) rfl
      simp only [Try.ntmps8, List.size_toArray, List.length_cons, List.length_nil, Nat.reduceAdd, Nat.reduceSub, Array.replicate_succ, Array.replicate_zero, List.push_toArray, List.append_toArray, List.nil_append, List.cons_append]
      co_apply wpC_seq (TT Sh)
      co_reg (TT Sh)
      co_op rl hF (co_quiet (TT Sh))
      co_apply opsC_nil (TT Sh)
      co_then
      co_apply wpC_seq (TT Sh)
      co_apply wpC_seq (TT Sh)
      co_reg (TT Sh)
      co_op rl hF (co_quiet (TT Sh))
      co_op rl hF (co_quiet (TT Sh))
      co_op rl hF (co_quiet (TT Sh))
      co_apply opsC_nil (TT Sh)
      co_then
      co_apply wpC_block (TT Sh)
      co_apply wpC_loop (TT Sh) (fun a' w' => ∃ (T : Array Value) (i : Nat), a' = ⟨T, []⟩ ∧ T.size = 25 ∧ T[0]? = some (.slice a np pcap) ∧ T[1]? = some (.slice al L.length lcap) ∧ T[4]? = some (.bool false) ∧ T[7]? = some (.slice al L.length lcap) ∧ T[8]? = some (.int .i64 L.length) ∧ T[9]? = some (.int .i64 i) ∧ i ≤ L.length ∧ (∀ S ∈ L.take i, S.length ≤ 20) ∧ Ext Vn W w') (fun a' _ => L.length - slotN a' 9) _ (L.length)
      · exact ⟨_, 0, rfl, rfl, rfl, rfl, rfl, rfl, rfl, rfl, by omega, by simp, hF⟩
      · simp [slotN]
      clear hF w
      rintro a' w ⟨T, i, rfl, hT, h0, h1, h4, h7, h8, h9, hi, hall, hF⟩
      obtain ⟨v0, v1, v2, v3, v4, v5, v6, v7, v8, v9, v10, v11, v12, v13, v14, v15, v16, v17, v18, v19, v20, v21, v22, v23, v24, rfl⟩ := arr25 T hT
      simp only [List.getElem?_toArray, List.getElem?_cons_zero, List.getElem?_cons_succ, Option.some.injEq] at h0 h1 h4 h7 h8 h9
      subst h0
      subst h1
      subst h4
      subst h7
      subst h8
      subst h9
      co_apply wpC_seq (TT Sh)
      co_reg (TT Sh)
      co_op rl hF (co_quiet (TT Sh))
      co_apply opsC_nil (TT Sh)
      co_then
      co_apply wpC_seq (TT Sh) (n₂ := 0)
      co_split (TT Sh) (decide ((i : Int) < (L.length : Int)))
      · intro ht
        exact wpC_absurd (by have : i < L.length := (by simpa using ht); omega)
      · intro ht
        have hil : i = L.length := by have : ¬ i < L.length := (by simpa using ht); omega
        co_apply wpC_exit (TT Sh)
        co_then
        co_apply wpC_seq (TT Sh)
        co_reg (TT Sh)
        co_op rl hF (co_quiet (TT Sh))
        co_op rl hF (co_quiet (TT Sh))
        co_op rl hF (co_quiet (TT Sh))
        co_op rl hF (co_quiet (TT Sh))
        co_apply opsC_unwanted (TT Sh) rfl (by rfl)
        try walk_nrm
        co_apply opsC_unwanted (TT Sh) rfl (by rfl)
        try walk_nrm
        co_apply opsC_unwanted (TT Sh) rfl (by rfl)
        try walk_nrm
        co_op rl hF (co_quiet (TT Sh))
        co_op rl hF (co_quiet (TT Sh))
        co_apply opsC_nil (TT Sh)
        co_then
        co_apply wpC_ret (TT Sh)
        try co_then
        refine ⟨rfl, _, resultsC_tmp (by rfl) _, ?_, hF⟩
        have hal : L.all (fun S => S.length ≤ 20) = true := by
          rw [List.all_eq_true]
          intro S hS
          have := hall S (by rw [List.take_of_length_le (by omega)]; exact hS)
          simpa using this
        unfold fewB
        rw [hal, Bool.true_and]
        rw [decide_eq_false hb, Bool.false_and]
        rfl
  · by_cases hb : np ≤ 100
    · have hb1 : (decide ((np : Int) ≤ 100)) = true := by simp; omega
      co_apply Exists.intro
      intro w hF
      co_apply callsC_of_wpC Try.func8 (by rfl) rfl
      simp only [Try.ntmps8, List.size_toArray, List.length_cons, List.length_nil, Nat.reduceAdd, Nat.reduceSub, Array.replicate_succ, Array.replicate_zero, List.push_toArray, List.append_toArray, List.nil_append, List.cons_append]
      co_apply wpC_seq (TT Sh)
      co_reg (TT Sh)
      co_op rl hF (co_quiet (TT Sh))
      co_apply opsC_nil (TT Sh)
      co_then
      co_apply wpC_seq (TT Sh)
      co_apply wpC_seq (TT Sh)
      co_reg (TT Sh)
      co_op rl hF (co_quiet (TT Sh))
      co_op rl hF (co_quiet (TT Sh))
      co_op rl hF (co_quiet (TT Sh))
      co_apply opsC_nil (TT Sh)
      co_then
      co_apply wpC_block (TT Sh)
      co_apply wpC_loop (TT Sh) (fun a' w' => ∃ (T : Array Value) (i : Nat), a' = ⟨T, []⟩ ∧ T.size = 25 ∧ T[0]? = some (.slice a np pcap) ∧ T[1]? = some (.slice (some ⟨p, o, none⟩) L.length lcap) ∧ T[4]? = some (.bool false) ∧ T[7]? = some (.slice (some ⟨p, o, none⟩) L.length lcap) ∧ T[8]? = some (.int .i64 L.length) ∧ T[9]? = some (.int .i64 i) ∧ i ≤ L.length ∧ (∀ S ∈ L.take i, S.length ≤ 20) ∧ Ext Vn W w') (fun a' _ => L.length - slotN a' 9) _ (L.length)
      · exact ⟨_, 0, rfl, rfl, rfl, rfl, rfl, rfl, rfl, rfl, by omega, by simp, hF⟩
      · simp [slotN]
      clear hF w
      rintro a' w ⟨T, i, rfl, hT, h0, h1, h4, h7, h8, h9, hi, hall, hF⟩
      obtain ⟨v0, v1, v2, v3, v4, v5, v6, v7, v8, v9, v10, v11, v12, v13, v14, v15, v16, v17, v18, v19, v20, v21, v22, v23, v24, rfl⟩ := arr25 T hT
      simp only [List.getElem?_toArray, List.getElem?_cons_zero, List.getElem?_cons_succ, Option.some.injEq] at h0 h1 h4 h7 h8 h9
      subst h0
      subst h1
      subst h4
      subst h7
      subst h8
      subst h9
      co_apply wpC_seq (TT Sh)
      co_reg (TT Sh)
      co_op rl hF (co_quiet (TT Sh))
      co_apply opsC_nil (TT Sh)
      co_then
      co_apply wpC_seq (TT Sh)
      co_split (TT Sh) (decide ((i : Int) < (L.length : Int)))
      · intro ht
        have hil : i < L.length := by simpa using ht
        co_apply wpC_skip (TT Sh)
        co_then
        co_apply wpC_seq (TT Sh)
        co_apply wpC_block (TT Sh)
        co_apply wpC_seq (TT Sh)
        obtain ⟨S, hSi⟩ : ∃ S, L[i]? = some S := ⟨_, List.getElem?_eq_getElem hil⟩
        obtain ⟨u, hu, ⟨aS, capS, rfl, _⟩⟩ := hcs i S hSi
        co_reg (TT Sh)
        co_opw rl hF (skip) (co_still (TT Sh))
        co_opw rl hF (have hc := cell_ext hF (hu)) (refine rd_old hS hF (hu) (by rfl) (fun e he => ?_); have hm := mem_listed he; simp [go_sem, *] at hm; exact hm)
        clear hc
        co_op rl hF (co_quiet (TT Sh))
        co_apply opsC_nil (TT Sh)
        co_then
        co_apply wpC_seq (TT Sh)
        co_reg (TT Sh)
        co_op rl hF (co_quiet (TT Sh))
        co_op rl hF (co_quiet (TT Sh))
        co_op rl hF (co_quiet (TT Sh))
        co_apply opsC_nil (TT Sh)
        co_then
        co_split (TT Sh) (decide ((20 : Int) < (S.length : Int)))
        · intro ht
          co_apply wpC_seq (TT Sh)
          co_reg (TT Sh)
          co_op rl hF (co_quiet (TT Sh))
          co_apply opsC_nil (TT Sh)
          co_then
          co_apply wpC_ret (TT Sh)
          try co_then
          refine ⟨rfl, _, resultsC_tmp (by rfl) _, ?_, hF⟩
          have h20 : 20 < S.length := by have := of_decide_eq_true ht; omega
          have : fewB np L = false := by
            unfold fewB
            rw [Bool.and_eq_false_iff]
            left
            rw [List.all_eq_false]
            exact ⟨S, List.mem_of_getElem? hSi, by simp; omega⟩
          simp [this]
        · intro ht
          co_apply wpC_skip (TT Sh)
          co_then
          co_reg (TT Sh)
          co_op rl hF (co_quiet (TT Sh))
          co_op rl hF (co_quiet (TT Sh))
          co_apply opsC_nil (TT Sh)
          co_then
          have h20 : S.length ≤ 20 := by have := of_decide_eq_false ht; omega
          have hwr : IntKind.i64.wrap ((i : Int) + 1) = ((i + 1 : Nat) : Int) := by rw [IntKind.wrap_i64]; omega
          refine ⟨⟨_, i + 1, rfl, rfl, rfl, rfl, rfl, rfl, rfl, by simp [hwr], by omega, fun S' hS' => ?_, hF⟩, ?_⟩
          · rw [List.take_add_one, hSi] at hS'
            rcases List.mem_append.1 hS' with h | h
            · exact hall S' h
            · simp at h; rw [h]; exact h20
          · simp [slotN, hwr]; omega
      · intro ht
        have hil : i = L.length := by have : ¬ i < L.length := (by simpa using ht); omega
        co_apply wpC_exit (TT Sh)
        co_then
        co_apply wpC_seq (TT Sh)
        co_reg (TT Sh)
        co_op rl hF (co_quiet (TT Sh))
        co_op rl hF (co_quiet (TT Sh))
        co_op rl hF (co_quiet (TT Sh))
        co_op rl hF (co_quiet (TT Sh))
        co_op rl hF (co_quiet (TT Sh))
        co_op rl hF (co_quiet (TT Sh))
        co_op rl hF (co_quiet (TT Sh))
        co_op rl hF (co_quiet (TT Sh))
        co_op rl hF (co_quiet (TT Sh))
        co_apply opsC_nil (TT Sh)
        co_then
        co_apply wpC_ret (TT Sh)
        try co_then
        refine ⟨rfl, _, resultsC_tmp (by rfl) _, ?_, hF⟩
        have hal : L.all (fun S => S.length ≤ 20) = true := by
          rw [List.all_eq_true]
          intro S hS
          have := hall S (by rw [List.take_of_length_le (by omega)]; exact hS)
          simpa using this
        unfold fewB
        rw [hal, Bool.true_and]
        rw [decide_eq_true hb, Bool.true_and]
        exact congrArg Value.bool (decide_eq_decide.2 (by omega))
    · have hb1 : (decide ((np : Int) ≤ 100)) = false := by simp; omega
      co_apply Exists.intro
      intro w hF
      co_apply callsC_of_wpC Try.func8 (by rfl) rfl
      simp only [Try.ntmps8, List.size_toArray, List.length_cons, List.length_nil, Nat.reduceAdd, Nat.reduceSub, Array.replicate_succ, Array.replicate_zero, List.push_toArray, List.append_toArray, List.nil_append, List.cons_append]
      co_apply wpC_seq (TT Sh)
      co_reg (TT Sh)
      co_op rl hF (co_quiet (TT Sh))
      co_apply opsC_nil (TT Sh)
      co_then
      co_apply wpC_seq (TT Sh)
      co_apply wpC_seq (TT Sh)
      co_reg (TT Sh)
      co_op rl hF (co_quiet (TT Sh))
      co_op rl hF (co_quiet (TT Sh))
      co_op rl hF (co_quiet (TT Sh))
      co_apply opsC_nil (TT Sh)
      co_then
      co_apply wpC_block (TT Sh)
      co_apply wpC_loop (TT Sh) (fun a' w' => ∃ (T : Array Value) (i : Nat), a' = ⟨T, []⟩ ∧ T.size = 25 ∧ T[0]? = some (.slice a np pcap) ∧ T[1]? = some (.slice (some ⟨p, o, none⟩) L.length lcap) ∧ T[4]? = some (.bool false) ∧ T[7]? = some (.slice (some ⟨p, o, none⟩) L.length lcap) ∧ T[8]? = some (.int .i64 L.length) ∧ T[9]? = some (.int .i64 i) ∧ i ≤ L.length ∧ (∀ S ∈ L.take i, S.length ≤ 20) ∧ Ext Vn W w') (fun a' _ => L.length - slotN a' 9) _ (L.length)
      · exact ⟨_, 0, rfl, rfl, rfl, rfl, rfl, rfl, rfl, rfl, by omega, by simp, hF⟩
      · simp [slotN]
      clear hF w
      rintro a' w ⟨T, i, rfl, hT, h0, h1, h4, h7, h8, h9, hi, hall, hF⟩
      obtain ⟨v0, v1, v2, v3, v4, v5, v6, v7, v8, v9, v10, v11, v12, v13, v14, v15, v16, v17, v18, v19, v20, v21, v22, v23, v24, rfl⟩ := arr25 T hT
      simp only [List.getElem?_toArray, List.getElem?_cons_zero, List.getElem?_cons_succ, Option.some.injEq] at h0 h1 h4 h7 h8 h9
      subst h0
      subst h1
      subst h4
      subst h7
      subst h8
      subst h9
      co_apply wpC_seq (TT Sh)
      co_reg (TT Sh)
      co_op rl hF (co_quiet (TT Sh))
      co_apply opsC_nil (TT Sh)
      co_then
      co_apply wpC_seq (TT Sh)
      co_split (TT Sh) (decide ((i : Int) < (L.length : Int)))
      · intro ht
        have hil : i < L.length := by simpa using ht
        co_apply wpC_skip (TT Sh)
        co_then
        co_apply wpC_seq (TT Sh)
        co_apply wpC_block (TT Sh)
        co_apply wpC_seq (TT Sh)
        obtain ⟨S, hSi⟩ : ∃ S, L[i]? = some S := ⟨_, List.getElem?_eq_getElem hil⟩
        obtain ⟨u, hu, ⟨aS, capS, rfl, _⟩⟩ := hcs i S hSi
        co_reg (TT Sh)
        co_opw rl hF (skip) (co_still (TT Sh))
        co_opw rl hF (have hc := cell_ext hF (hu)) (refine rd_old hS hF (hu) (by rfl) (fun e he => ?_); have hm := mem_listed he; simp [go_sem, *] at hm; exact hm)
        clear hc
        co_op rl hF (co_quiet (TT Sh))
        co_apply opsC_nil (TT Sh)
        co_then
        co_apply wpC_seq (TT Sh)
        co_reg (TT Sh)
        co_op rl hF (co_quiet (TT Sh))
        co_op rl hF (co_quiet (TT Sh))
        co_op rl hF (co_quiet (TT Sh))
        co_apply opsC_nil (TT Sh)
        co_then
        co_split (TT Sh) (decide ((20 : Int) < (S.length : Int)))
        · intro ht
          co_apply wpC_seq (TT Sh)
          co_reg (TT Sh)
          co_op rl hF (co_quiet (TT Sh))
          co_apply opsC_nil (TT Sh)
          co_then
          co_apply wpC_ret (TT Sh)
          try co_then
          refine ⟨rfl, _, resultsC_tmp (by rfl) _, ?_, hF⟩
          have h20 : 20 < S.length := by have := of_decide_eq_true ht; omega
          have : fewB np L = false := by
            unfold fewB
            rw [Bool.and_eq_false_iff]
            left
            rw [List.all_eq_false]
            exact ⟨S, List.mem_of_getElem? hSi, by simp; omega⟩
          simp [this]
        · intro ht
          co_apply wpC_skip (TT Sh)
          co_then
          co_reg (TT Sh)
          co_op rl hF (co_quiet (TT Sh))
          co_op rl hF (co_quiet (TT Sh))
          co_apply opsC_nil (TT Sh)
          co_then
          have h20 : S.length ≤ 20 := by have := of_decide_eq_false ht; omega
          have hwr : IntKind.i64.wrap ((i : Int) + 1) = ((i + 1 : Nat) : Int) := by rw [IntKind.wrap_i64]; omega
          refine ⟨⟨_, i + 1, rfl, rfl, rfl, rfl, rfl, rfl, rfl, by simp [hwr], by omega, fun S' hS' => ?_, hF⟩, ?_⟩
          · rw [List.take_add_one, hSi] at hS'
            rcases List.mem_append.1 hS' with h | h
            · exact hall S' h
            · simp at h; rw [h]; exact h20
          · simp [slotN, hwr]; omega
      · intro ht
        have hil : i = L.length := by have : ¬ i < L.length := (by simpa using ht); omega
        co_apply wpC_exit (TT Sh)
        co_then
        co_apply wpC_seq (TT Sh)
        co_reg (TT Sh)
        co_op rl hF (co_quiet (TT Sh))
        co_op rl hF (co_quiet (TT Sh))
        co_op rl hF (co_quiet (TT Sh))
        co_op rl hF (co_quiet (TT Sh))
        co_apply opsC_unwanted (TT Sh) rfl (by rfl)
        try walk_nrm
        co_apply opsC_unwanted (TT Sh) rfl (by rfl)
        try walk_nrm
        co_apply opsC_unwanted (TT Sh) rfl (by rfl)
        try walk_nrm
        co_op rl hF (co_quiet (TT Sh))
        co_op rl hF (co_quiet (TT Sh))
        co_apply opsC_nil (TT Sh)
        co_then
        co_apply wpC_ret (TT Sh)
        try co_then
        refine ⟨rfl, _, resultsC_tmp (by rfl) _, ?_, hF⟩
        have hal : L.all (fun S => S.length ≤ 20) = true := by
          rw [List.all_eq_true]
          intro S hS
          have := hall S (by rw [List.take_of_length_le (by omega)]; exact hS)
          simpa using this
        unfold fewB
        rw [hal, Bool.true_and]
        rw [decide_eq_false hb, Bool.false_and]
        rfl

end
end Go.Proofs.Ytggfcdhkgldbfaa
