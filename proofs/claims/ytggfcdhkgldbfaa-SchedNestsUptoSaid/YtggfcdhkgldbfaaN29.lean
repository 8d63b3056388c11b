/-
  PARTS of a claim, merged by segs.py: NwVal.
-/
import Derived.Test.YtggfcdhkgldbfaaN27
namespace Go.Proofs.Ytggfcdhkgldbfaa
set_option linter.unusedSimpArgs false
set_option linter.unusedVariables false

/-! ### NwVal -/
section
set_option linter.unusedSimpArgs false
open Go Go.Conc Go.RowKit Go.ConcR.Gen Cw

def u8s (p : List Nat) : List Value := p.map fun (x : Nat) => .int .u8 (x : Int)
def ints (p : List Nat) : List Value := p.map fun (x : Nat) => .int .i64 (x : Int)
/-- A row of bytes in memory. -/
def U8Row (w : World) (v : Value) (p : List Nat) : Prop := ∃ a cap, v = .slice a p.length cap ∧ (p = [] ∨ ∃ b o, a = some ⟨b, o, none⟩ ∧ ∀ (k x : Nat), p[k]? = some x → w.cell? ⟨b, o + k, none⟩ = some (.int .u8 x))
def validP (p : List Nat) (n : Nat) : List Nat := if n = 0 then [] else p.map (· % n)
theorem intInfo : ∃ i, Try.prog.info? 3 = some i ∧ i.zero = some (.int .i64 0) ∧ i.size = 1 ∧ i.bytes = 8 := by
  have h : (Try.prog.info? 3).map (fun i => (i.zero, i.size, i.bytes)) = some (some (.int .i64 0), 1, 8) := by kernel_rfl
  obtain ⟨i, hi, hb⟩ := Option.map_eq_some_iff.1 h
  simp at hb
  exact ⟨i, hi, hb⟩
theorem bi1 (x : Int) (w : World) : (Instr.buildSlice 24 1 #[(0, .int .i64 x)]).run Try.prog w = .ok (.slice (some ⟨w.heap.size, 0, none⟩) 1 1) (w.alloc (.cells #[.int .i64 x] 3)) := by
  obtain ⟨it, hit, h1, h2, _⟩ := intInfo
  refine run_buildSlice w _ _ 1 _ _ it _ (by kernel_rfl) hit h1 (by rw [h2]; omega) (by rw [h2]; omega) ?_
  rw [h2]
  kernel_rfl
theorem bi1E (x : Int) (w : World) (es : Array Event) : (Instr.buildSlice 24 1 #[(0, .int .i64 x)]).events Try.prog w es = es := by
  obtain ⟨it, hit, h1, h2, _⟩ := intInfo
  simp [Instr.buildSlice, go_sem, sizeOf, typeInfo, zeroValue, hit, h1, h2]
set_option maxRecDepth 100000 in
set_option maxHeartbeats 2000000 in
theorem c_valid {Sh : Loc → Prop} {W : World} {main : Bool} (hS : ShOk Sh W) {v : Value} {p : List Nat} (hp : U8Row W v p) (n : Nat) (hpl : p.length ≤ 17179869184) (hn : n < 9223372036854775807) (hx : ∀ x ∈ p, x < 256) :
    ∃ k, ∀ w, Ext Vn W w → CallsC Try.prog main (Ext Vn) (HDq (Cx0 Sh)) 7 #[v, .int .i64 n] k w (fun r w' => Ext Vn W w' ∧ w'.ownsRow W.heap.size 3 1 r (validP p n).length (ints (validP p n))) := by
  obtain ⟨al, lcap, rfl, hp⟩ := hp
  obtain ⟨it, hit, hz1, hz2, hz3⟩ := intInfo
  have rl0 : ∀ {w w' : World}, Ext Vn W w → Ext Vn w w' → Ext Vn W w' := fun h r => h.trans r
  have rl : ∀ {u : Value} {l : List Value} {k : Nat} {w w' : World}, (Ext Vn W w ∧ w.ownsRow W.heap.size 3 1 u k l) → Ext Vn w w' → (Ext Vn W w' ∧ w'.ownsRow W.heap.size 3 1 u k l) := fun h r => ⟨h.1.trans r, ownsRow_ext h.2 r fun _ _ => id⟩
  by_cases hn0 : n = 0
  · subst hn0
    rcases hp with hp | ⟨b, o, rfl, hcs⟩
    · have hL0 : p.length ≤ 0 := by rw [hp]; simp
      clear hp
      co_apply Exists.intro
      intro w hF
      co_apply callsC_of_wpC Try.func7 (by rfl) rfl
      simp only [Try.ntmps7, List.size_toArray, List.length_cons, List.length_nil, Nat.reduceAdd, Nat.reduceSub, Array.replicate_succ, Array.replicate_zero, List.push_toArray, List.append_toArray, List.nil_append, List.cons_append]
      co_apply wpC_seq (TT Sh)
      co_reg (TT Sh)
      co_op rl0 hF (co_quiet (TT Sh))
      co_apply opsC_nil (TT Sh)
      co_then
      co_apply wpC_seq (TT Sh)
      co_reg (TT Sh)
      co_op rl0 hF (co_quiet (TT Sh))
      co_apply opsC_nil (TT Sh)
      co_then
      co_apply wpC_seq (TT Sh)
      co_apply wpC_seq (TT Sh)
      co_reg (TT Sh)
      co_op rl0 hF (co_quiet (TT Sh))
      co_op rl0 hF (co_quiet (TT Sh))
      co_op rl0 hF (co_quiet (TT Sh))
      co_apply opsC_nil (TT Sh)
      co_then
      co_apply wpC_block (TT Sh)
      co_apply wpC_loop (TT Sh) (fun a' w' => ∃ (T : Array Value) (i : Nat) (u : Value), a' = ⟨T, []⟩ ∧ T.size = 25 ∧ T[1]? = some (.int .i64 0) ∧ T[5]? = some (u) ∧ T[8]? = some (.slice al p.length lcap) ∧ T[9]? = some (.int .i64 p.length) ∧ T[10]? = some (.int .i64 i) ∧ i ≤ p.length ∧ Ext Vn W w' ∧ w'.ownsRow W.heap.size 3 1 u 0 []) (fun a' _ => p.length - slotN a' 10) _ (p.length)
      · exact ⟨_, 0, .slice none 0 0, rfl, rfl, rfl, rfl, rfl, rfl, rfl, by omega, hF, by simpa [ints] using World.ownsRow_nil _ _ _ _⟩
      · simp [slotN]
      clear hF w
      rintro a' w ⟨T, i, u, rfl, hT, h1, h5, h8, h9, h10, hi, hF⟩
      obtain ⟨v0, v1, v2, v3, v4, v5, v6, v7, v8, v9, v10, v11, v12, v13, v14, v15, v16, v17, v18, v19, v20, v21, v22, v23, v24, rfl⟩ := arr25 T hT
      simp only [List.getElem?_toArray, List.getElem?_cons_zero, List.getElem?_cons_succ, Option.some.injEq] at h1 h5 h8 h9 h10
      subst h1
      subst h5
      subst h8
      subst h9
      subst h10
      co_apply wpC_seq (TT Sh)
      co_reg (TT Sh)
      co_op rl hF (co_quiet (TT Sh))
      co_apply opsC_nil (TT Sh)
      co_then
      co_apply wpC_seq (TT Sh) (n₂ := 0)
      co_split (TT Sh) (decide ((i : Int) < (p.length : Int)))
      · intro ht
        exact wpC_absurd (by have : i < p.length := (by simpa using ht); omega)
      · intro ht
        have hil : i = p.length := by have : ¬ i < p.length := (by simpa using ht); omega
        co_apply wpC_exit (TT Sh)
        co_then
        co_apply wpC_seq (TT Sh)
        co_reg (TT Sh)
        co_op rl hF (co_quiet (TT Sh))
        co_op rl hF (co_quiet (TT Sh))
        co_apply opsC_nil (TT Sh)
        co_then
        co_apply wpC_ret (TT Sh)
        try co_then
        refine ⟨rfl, _, resultsC_tmp (by rfl) _, hF.1, ?_⟩
        have h2 := hF.2
        unfold validP
        rw [if_pos rfl]
        exact h2
    · co_apply Exists.intro
      intro w hF
      co_apply callsC_of_wpC Try.func7 (by rfl) rfl
      simp only [Try.ntmps7, List.size_toArray, List.length_cons, List.length_nil, Nat.reduceAdd, Nat.reduceSub, Array.replicate_succ, Array.replicate_zero, List.push_toArray, List.append_toArray, List.nil_append, List.cons_append]
      co_apply wpC_seq (TT Sh)
      co_reg (TT Sh)
      co_op rl0 hF (co_quiet (TT Sh))
      co_apply opsC_nil (TT Sh)
      co_then
      co_apply wpC_seq (TT Sh)
      co_reg (TT Sh)
      co_op rl0 hF (co_quiet (TT Sh))
      co_apply opsC_nil (TT Sh)
      co_then
      co_apply wpC_seq (TT Sh)
      co_apply wpC_seq (TT Sh)
      co_reg (TT Sh)
      co_op rl0 hF (co_quiet (TT Sh))
      co_op rl0 hF (co_quiet (TT Sh))
      co_op rl0 hF (co_quiet (TT Sh))
      co_apply opsC_nil (TT Sh)
      co_then
      co_apply wpC_block (TT Sh)
      co_apply wpC_loop (TT Sh) (fun a' w' => ∃ (T : Array Value) (i : Nat) (u : Value), a' = ⟨T, []⟩ ∧ T.size = 25 ∧ T[1]? = some (.int .i64 0) ∧ T[5]? = some (u) ∧ T[8]? = some (.slice (some ⟨b, o, none⟩) p.length lcap) ∧ T[9]? = some (.int .i64 p.length) ∧ T[10]? = some (.int .i64 i) ∧ i ≤ p.length ∧ Ext Vn W w' ∧ w'.ownsRow W.heap.size 3 1 u 0 []) (fun a' _ => p.length - slotN a' 10) _ (p.length)
      · exact ⟨_, 0, .slice none 0 0, rfl, rfl, rfl, rfl, rfl, rfl, rfl, by omega, hF, by simpa [ints] using World.ownsRow_nil _ _ _ _⟩
      · simp [slotN]
      clear hF w
      rintro a' w ⟨T, i, u, rfl, hT, h1, h5, h8, h9, h10, hi, hF⟩
      obtain ⟨v0, v1, v2, v3, v4, v5, v6, v7, v8, v9, v10, v11, v12, v13, v14, v15, v16, v17, v18, v19, v20, v21, v22, v23, v24, rfl⟩ := arr25 T hT
      simp only [List.getElem?_toArray, List.getElem?_cons_zero, List.getElem?_cons_succ, Option.some.injEq] at h1 h5 h8 h9 h10
      subst h1
      subst h5
      subst h8
      subst h9
      subst h10
      co_apply wpC_seq (TT Sh)
      co_reg (TT Sh)
      co_op rl hF (co_quiet (TT Sh))
      co_apply opsC_nil (TT Sh)
      co_then
      co_apply wpC_seq (TT Sh)
      co_split (TT Sh) (decide ((i : Int) < (p.length : Int)))
      · intro ht
        have hil : i < p.length := by simpa using ht
        co_apply wpC_skip (TT Sh)
        co_then
        co_apply wpC_seq (TT Sh)
        co_apply wpC_block (TT Sh)
        co_apply wpC_seq (TT Sh)
        obtain ⟨x, hxi⟩ : ∃ x, p[i]? = some x := ⟨_, List.getElem?_eq_getElem hil⟩
        have hx256 := hx x (List.mem_of_getElem? hxi)
        co_reg (TT Sh)
        co_opw rl hF (skip) (co_still (TT Sh))
        co_opw rl hF (have hc := cell_ext hF.1 (hcs i x hxi)) (refine rd_old hS hF.1 (hcs i x hxi) (by rfl) (fun e he => ?_); have hm := mem_listed he; simp [go_sem, *] at hm; exact hm)
        clear hc
        co_op rl hF (co_quiet (TT Sh))
        co_apply opsC_nil (TT Sh)
        co_then
        co_apply wpC_seq (TT Sh)
        co_reg (TT Sh)
        co_op rl hF (co_quiet (TT Sh))
        co_op rl hF (co_quiet (TT Sh))
        co_apply opsC_nil (TT Sh)
        co_then
        co_apply wpC_cond (TT Sh) (t := false)
        · simp [Act.eval]
        co_apply wpC_skip (TT Sh)
        co_then
        co_reg (TT Sh)
        co_op rl hF (co_quiet (TT Sh))
        co_op rl hF (co_quiet (TT Sh))
        co_apply opsC_nil (TT Sh)
        co_then
        have hwr : IntKind.i64.wrap ((i : Int) + 1) = ((i + 1 : Nat) : Int) := by rw [IntKind.wrap_i64]; omega
        refine ⟨⟨_, i + 1, _, rfl, rfl, rfl, rfl, rfl, rfl, by simp [hwr], by omega, ?_⟩, ?_⟩
        · simpa using hF
        · simp [slotN, hwr]; omega
      · intro ht
        have hil : i = p.length := by have : ¬ i < p.length := (by simpa using ht); omega
        co_apply wpC_exit (TT Sh)
        co_then
        co_apply wpC_seq (TT Sh)
        co_reg (TT Sh)
        co_op rl hF (co_quiet (TT Sh))
        co_op rl hF (co_quiet (TT Sh))
        co_apply opsC_nil (TT Sh)
        co_then
        co_apply wpC_ret (TT Sh)
        try co_then
        refine ⟨rfl, _, resultsC_tmp (by rfl) _, hF.1, ?_⟩
        have h2 := hF.2
        unfold validP
        rw [if_pos rfl]
        exact h2
  · have hn1 : 0 < n := by omega
    rcases hp with hp | ⟨b, o, rfl, hcs⟩
    · have hL0 : p.length ≤ 0 := by rw [hp]; simp
      clear hp
      co_apply Exists.intro
      intro w hF
      co_apply callsC_of_wpC Try.func7 (by rfl) rfl
      simp only [Try.ntmps7, List.size_toArray, List.length_cons, List.length_nil, Nat.reduceAdd, Nat.reduceSub, Array.replicate_succ, Array.replicate_zero, List.push_toArray, List.append_toArray, List.nil_append, List.cons_append]
      co_apply wpC_seq (TT Sh)
      co_reg (TT Sh)
      co_op rl0 hF (co_quiet (TT Sh))
      co_apply opsC_nil (TT Sh)
      co_then
      co_apply wpC_seq (TT Sh)
      co_reg (TT Sh)
      co_op rl0 hF (co_quiet (TT Sh))
      co_apply opsC_nil (TT Sh)
      co_then
      co_apply wpC_seq (TT Sh)
      co_apply wpC_seq (TT Sh)
      co_reg (TT Sh)
      co_op rl0 hF (co_quiet (TT Sh))
      co_op rl0 hF (co_quiet (TT Sh))
      co_op rl0 hF (co_quiet (TT Sh))
      co_apply opsC_nil (TT Sh)
      co_then
      co_apply wpC_block (TT Sh)
      co_apply wpC_loop (TT Sh) (fun a' w' => ∃ (T : Array Value) (i : Nat) (u : Value), a' = ⟨T, []⟩ ∧ T.size = 25 ∧ T[1]? = some (.int .i64 n) ∧ T[5]? = some (u) ∧ T[8]? = some (.slice al p.length lcap) ∧ T[9]? = some (.int .i64 p.length) ∧ T[10]? = some (.int .i64 i) ∧ i ≤ p.length ∧ Ext Vn W w' ∧ w'.ownsRow W.heap.size 3 1 u ((p.take i).map (· % n)).length (ints ((p.take i).map (· % n)))) (fun a' _ => p.length - slotN a' 10) _ (p.length)
      · exact ⟨_, 0, .slice none 0 0, rfl, rfl, rfl, rfl, rfl, rfl, rfl, by omega, hF, by simpa [ints] using World.ownsRow_nil _ _ _ _⟩
      · simp [slotN]
      clear hF w
      rintro a' w ⟨T, i, u, rfl, hT, h1, h5, h8, h9, h10, hi, hF⟩
      obtain ⟨v0, v1, v2, v3, v4, v5, v6, v7, v8, v9, v10, v11, v12, v13, v14, v15, v16, v17, v18, v19, v20, v21, v22, v23, v24, rfl⟩ := arr25 T hT
      simp only [List.getElem?_toArray, List.getElem?_cons_zero, List.getElem?_cons_succ, Option.some.injEq] at h1 h5 h8 h9 h10
      subst h1
      subst h5
      subst h8
      subst h9
      subst h10
      co_apply wpC_seq (TT Sh)
      co_reg (TT Sh)
      co_op rl hF (co_quiet (TT Sh))
      co_apply opsC_nil (TT Sh)
      co_then
      co_apply wpC_seq (TT Sh) (n₂ := 0)
      co_split (TT Sh) (decide ((i : Int) < (p.length : Int)))
      · intro ht
        exact wpC_absurd (by have : i < p.length := (by simpa using ht); omega)
      · intro ht
        have hil : i = p.length := by have : ¬ i < p.length := (by simpa using ht); omega
        co_apply wpC_exit (TT Sh)
        co_then
        co_apply wpC_seq (TT Sh)
        co_reg (TT Sh)
        co_op rl hF (co_quiet (TT Sh))
        co_op rl hF (co_quiet (TT Sh))
        co_apply opsC_nil (TT Sh)
        co_then
        co_apply wpC_ret (TT Sh)
        try co_then
        refine ⟨rfl, _, resultsC_tmp (by rfl) _, hF.1, ?_⟩
        have h2 := hF.2
        rw [List.take_of_length_le (by omega)] at h2
        unfold validP
        rw [if_neg hn0]
        exact h2
    · co_apply Exists.intro
      intro w hF
      co_apply callsC_of_wpC Try.func7 (by rfl) rfl
      simp only [Try.ntmps7, List.size_toArray, List.length_cons, List.length_nil, Nat.reduceAdd, Nat.reduceSub, Array.replicate_succ, Array.replicate_zero, List.push_toArray, List.append_toArray, List.nil_append, List.cons_append]
      co_apply wpC_seq (TT Sh)
      co_reg (TT Sh)
      co_op rl0 hF (co_quiet (TT Sh))
      co_apply opsC_nil (TT Sh)
      co_then
      co_apply wpC_seq (TT Sh)
      co_reg (TT Sh)
      co_op rl0 hF (co_quiet (TT Sh))
      co_apply opsC_nil (TT Sh)
      co_then
      co_apply wpC_seq (TT Sh)
      co_apply wpC_seq (TT Sh)
      co_reg (TT Sh)
      co_op rl0 hF (co_quiet (TT Sh))
      co_op rl0 hF (co_quiet (TT Sh))
      co_op rl0 hF (co_quiet (TT Sh))
      co_apply opsC_nil (TT Sh)
      co_then
      co_apply wpC_block (TT Sh)
      co_apply wpC_loop (TT Sh) (fun a' w' => ∃ (T : Array Value) (i : Nat) (u : Value), a' = ⟨T, []⟩ ∧ T.size = 25 ∧ T[1]? = some (.int .i64 n) ∧ T[5]? = some (u) ∧ T[8]? = some (.slice (some ⟨b, o, none⟩) p.length lcap) ∧ T[9]? = some (.int .i64 p.length) ∧ T[10]? = some (.int .i64 i) ∧ i ≤ p.length ∧ Ext Vn W w' ∧ w'.ownsRow W.heap.size 3 1 u ((p.take i).map (· % n)).length (ints ((p.take i).map (· % n)))) (fun a' _ => p.length - slotN a' 10) _ (p.length)
      · exact ⟨_, 0, .slice none 0 0, rfl, rfl, rfl, rfl, rfl, rfl, rfl, by omega, hF, by simpa [ints] using World.ownsRow_nil _ _ _ _⟩
      · simp [slotN]
      clear hF w
      rintro a' w ⟨T, i, u, rfl, hT, h1, h5, h8, h9, h10, hi, hF⟩
      obtain ⟨v0, v1, v2, v3, v4, v5, v6, v7, v8, v9, v10, v11, v12, v13, v14, v15, v16, v17, v18, v19, v20, v21, v22, v23, v24, rfl⟩ := arr25 T hT
      simp only [List.getElem?_toArray, List.getElem?_cons_zero, List.getElem?_cons_succ, Option.some.injEq] at h1 h5 h8 h9 h10
      subst h1
      subst h5
      subst h8
      subst h9
      subst h10
      co_apply wpC_seq (TT Sh)
      co_reg (TT Sh)
      co_op rl hF (co_quiet (TT Sh))
      co_apply opsC_nil (TT Sh)
      co_then
      co_apply wpC_seq (TT Sh)
      co_split (TT Sh) (decide ((i : Int) < (p.length : Int)))
      · intro ht
        have hil : i < p.length := by simpa using ht
        co_apply wpC_skip (TT Sh)
        co_then
        co_apply wpC_seq (TT Sh)
        co_apply wpC_block (TT Sh)
        co_apply wpC_seq (TT Sh)
        obtain ⟨x, hxi⟩ : ∃ x, p[i]? = some x := ⟨_, List.getElem?_eq_getElem hil⟩
        have hx256 := hx x (List.mem_of_getElem? hxi)
        co_reg (TT Sh)
        co_opw rl hF (skip) (co_still (TT Sh))
        co_opw rl hF (have hc := cell_ext hF.1 (hcs i x hxi)) (refine rd_old hS hF.1 (hcs i x hxi) (by rfl) (fun e he => ?_); have hm := mem_listed he; simp [go_sem, *] at hm; exact hm)
        clear hc
        co_op rl hF (co_quiet (TT Sh))
        co_apply opsC_nil (TT Sh)
        co_then
        co_apply wpC_seq (TT Sh)
        co_reg (TT Sh)
        co_op rl hF (co_quiet (TT Sh))
        co_op rl hF (co_quiet (TT Sh))
        co_apply opsC_nil (TT Sh)
        co_then
        co_apply wpC_cond (TT Sh) (t := true)
        · simp [Act.eval, hn1]
        simp only [if_true, reduceIte]
        co_reg (TT Sh)
        have hcv : IntKind.i64.wrap (x : Int) = x := by rw [IntKind.wrap_i64]; omega
        have hrm : (x : Int).tmod n = ((x % n : Nat) : Int) := rfl
        co_op rl hF (co_quiet (TT Sh))
        co_op rl hF (co_quiet (TT Sh))
        co_opw rl hF (skip) (co_still (TT Sh))
        co_op rl hF (co_quiet (TT Sh))
        co_opw rl hF (skip) (co_still (TT Sh))
        co_opw rl hF (have hm := bi1 ((x % n : Nat) : Int); have hm' := bi1E ((x % n : Nat) : Int)) (rw [listed_nil (by simp [go_sem, *])]; exact al_hd (by simp))
        have hF2 := And.intro (ext_alloc hF.1 (.cells #[.int .i64 ((x % n : Nat) : Int)] 3)) (hF.2.alloc (.cells #[.int .i64 ((x % n : Nat) : Int)] 3))
        have hln : ((p.take i).map (· % n)).length ≤ p.length := by simp; omega
        co_apply opsC_append hS (by rfl) (by rfl) (.tmp 16) (.tmp 21) 24 (by rfl) (by kernel_rfl) hit hz1 hz2 hz3 (by rfl) (by omega) (by rfl) (by rfl) (by omega) (news := [.int .i64 ((x % n : Nat) : Int)]) (by rfl) (by simp [Value.oneCell']) (by simp only [maxLen]; omega) (by omega) hF2 (news_at _ _ _ _ (by rfl)) (by exact hF.1.size)
        clear hF hF2 hm hm'
        intro v' w' hF
        try walk_nrm
        co_op rl hF (co_quiet (TT Sh))
        co_apply opsC_nil (TT Sh)
        co_then
        co_reg (TT Sh)
        co_op rl hF (co_quiet (TT Sh))
        co_op rl hF (co_quiet (TT Sh))
        co_apply opsC_nil (TT Sh)
        co_then
        have hwr : IntKind.i64.wrap ((i : Int) + 1) = ((i + 1 : Nat) : Int) := by rw [IntKind.wrap_i64]; omega
        refine ⟨⟨_, i + 1, _, rfl, rfl, rfl, rfl, rfl, rfl, by simp [hwr], by omega, hF.1, ?_⟩, ?_⟩
        · have h2 := hF.2
          rw [List.take_add_one, hxi]
          simpa [ints] using h2
        · simp [slotN, hwr]; omega
      · intro ht
        have hil : i = p.length := by have : ¬ i < p.length := (by simpa using ht); omega
        co_apply wpC_exit (TT Sh)
        co_then
        co_apply wpC_seq (TT Sh)
        co_reg (TT Sh)
        co_op rl hF (co_quiet (TT Sh))
        co_op rl hF (co_quiet (TT Sh))
        co_apply opsC_nil (TT Sh)
        co_then
        co_apply wpC_ret (TT Sh)
        try co_then
        refine ⟨rfl, _, resultsC_tmp (by rfl) _, hF.1, ?_⟩
        have h2 := hF.2
        rw [List.take_of_length_le (by omega)] at h2
        unfold validP
        rw [if_neg hn0]
        exact h2
end
end Go.Proofs.Ytggfcdhkgldbfaa
