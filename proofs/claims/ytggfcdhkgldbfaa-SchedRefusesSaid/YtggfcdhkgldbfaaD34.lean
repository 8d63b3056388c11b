/-
  PARTS of a claim, merged by segs.py: CwRf1.
-/
import Derived.Test.YtggfcdhkgldbfaaD32
import Derived.Test.YtggfcdhkgldbfaaD33
namespace Go.Proofs.Ytggfcdhkgldbfaa
set_option linter.unusedSimpArgs false
set_option linter.unusedVariables false

/-! ### CwRf1 -/
section
set_option linter.unusedSimpArgs false
open Go Go.Conc Go.RowKit Go.ConcR.Gen Cw

noncomputable def bodyF : Code := Try.f6.body.getD .skip
noncomputable def cdF1 : Code := rt (rt bodyF)
noncomputable def cdF2 : Code := rt cdF1
noncomputable def cdF3 : Code := rt cdF2
noncomputable def cdF4 : Code := rt cdF3
noncomputable def cdF5 : Code := rt cdF4
noncomputable def cdF6 : Code := rt cdF5
noncomputable def cdF7 : Code := rt cdF6
noncomputable def cdF8 : Code := rt cdF7
noncomputable def cdF9 : Code := rt cdF8
noncomputable def cdF10 : Code := rt cdF9
abbrev fRf (T : Array Value) (k : List Item) : Frame := (base 6).at ⟨T, []⟩ k
theorem arrG105 (T : Array Value) (h : T.size = 105) : T = #[gv T 0, gv T 1, gv T 2, gv T 3, gv T 4, gv T 5, gv T 6, gv T 7, gv T 8, gv T 9, gv T 10, gv T 11, gv T 12, gv T 13, gv T 14, gv T 15, gv T 16, gv T 17, gv T 18, gv T 19, gv T 20, gv T 21, gv T 22, gv T 23, gv T 24, gv T 25, gv T 26, gv T 27, gv T 28, gv T 29, gv T 30, gv T 31, gv T 32, gv T 33, gv T 34, gv T 35, gv T 36, gv T 37, gv T 38, gv T 39, gv T 40, gv T 41, gv T 42, gv T 43, gv T 44, gv T 45, gv T 46, gv T 47, gv T 48, gv T 49, gv T 50, gv T 51, gv T 52, gv T 53, gv T 54, gv T 55, gv T 56, gv T 57, gv T 58, gv T 59, gv T 60, gv T 61, gv T 62, gv T 63, gv T 64, gv T 65, gv T 66, gv T 67, gv T 68, gv T 69, gv T 70, gv T 71, gv T 72, gv T 73, gv T 74, gv T 75, gv T 76, gv T 77, gv T 78, gv T 79, gv T 80, gv T 81, gv T 82, gv T 83, gv T 84, gv T 85, gv T 86, gv T 87, gv T 88, gv T 89, gv T 90, gv T 91, gv T 92, gv T 93, gv T 94, gv T 95, gv T 96, gv T 97, gv T 98, gv T 99, gv T 100, gv T 101, gv T 102, gv T 103, gv T 104] := (arr_eq T 105 h).trans (by rfl)
theorem kn_new {W w : World} {l : List (Nat × Obj)} (h : Kn W l w) (o : Obj) : ∃ b wz, w.alloc o = wz ∧ w.heap.size = b ∧ Kn W ((b, o) :: l) wz := ⟨_, _, rfl, rfl, h.alloc o⟩
/-- Through one part of a body. -/
theorem goes_partF {f : FuncId} {Sh : Loc → Prop} {mn : Bool} {x y : Code} {n : Nat} {K : Act → World → Prop} {a : Act} {w : World} (hK : ∀ a w w', K a w → Ext Vn w w' → K a w')
    (hx : ∀ w', Ext Vn w w' → x.wpC Try.prog mn (Ext Vn) (HDq (Cx0 Sh)) f n (Exit.then K fun _ _ _ => False) a w') :
    Goes Try.prog mn (Ext Vn) (HDq (Cx0 Sh)) (fun g w => ∃ a', g = G ((base f).at a' (.code y :: [])) [] ∧ K a' w) (n + 1) (G ((base f).at a (.code (.seq x y) :: [])) []) w := by
  refine Goes.step rfl (fun w' hr => ?_)
  rw [stepG_seq]
  simp only [goes_go]
  refine ⟨hdq_idle _ _, ?_⟩
  have := wpC_goes (m := 0) (b := base f) (k := [.code y]) (cs := []) (Stop := fun g w => ∃ a', g = G ((base f).at a' (.code y :: [])) [] ∧ K a' w) (hx w' hr) rfl (by simp [base]) (fun e a' w' q => by
    cases e with
    | normal => exact Goes.stop fun w hr => ⟨a', rfl, hK _ _ _ q hr⟩
    | ret => exact q.elim
    | exit id => exact q.elim
    | goto l => exact q.elim
    | panic ch => exact q.elim
    | outgrown => exact q.elim)
  exact this.mono (by omega)
theorem cell_of_box {w : World} {b : Nat} {v : Value} {ty : TypeId} (h : w.heap[b]? = some (.cells #[v] ty (0, 0))) : w.cell? ⟨b, 0, none⟩ = some v := by simp [World.cell?, h]
theorem unf_of_box {w : World} {b : Nat} {v : Value} {ty : TypeId} (h : w.heap[b]? = some (.cells #[v] ty (0, 0))) : w.frozen? ⟨b, 0, none⟩ = false := by simp [World.frozen?, h]
/-- An adder of one step. -/
abbrev adV (sb : Nat) : Value := .iface 48 (.agg #[pb sb, .int .i64 1])
theorem taskInfo : ∃ i, Try.prog.info? 50 = some i ∧ i.zero = some .nilIface ∧ i.size = 1 ∧ i.bytes = 16 := by
  have h : (Try.prog.info? 50).map (fun i => (i.zero, i.size, i.bytes)) = some (some .nilIface, 1, 16) := by kernel_rfl
  obtain ⟨i, hi, hb⟩ := Option.map_eq_some_iff.1 h
  simp at hb
  exact ⟨i, hi, hb⟩
theorem btA (sb : Nat) (w : World) : (Instr.buildSlice 32 1 #[(0, adV sb)]).run Try.prog w = .ok (.slice (some ⟨w.heap.size, 0, none⟩) 1 1) (w.alloc (.cells #[adV sb] 50)) := by
  obtain ⟨it, hit, h1, h2, _⟩ := taskInfo
  refine run_buildSlice w _ _ 1 _ _ it _ (by kernel_rfl) hit h1 (by rw [h2]; omega) (by rw [h2]; omega) ?_
  rw [h2]
  kernel_rfl
theorem btAE (sb : Nat) (w : World) (es : Array Event) : (Instr.buildSlice 32 1 #[(0, adV sb)]).events Try.prog w es = es := by
  obtain ⟨it, hit, h1, h2, _⟩ := taskInfo
  simp [Instr.buildSlice, go_sem, sizeOf, typeInfo, zeroValue, hit, h1, h2]
theorem bldA (sb : Nat) (w : World) : (Instr.build 48 #[(0, pb sb), (1, .int .i64 1)]).run Try.prog w = .ok (.agg #[pb sb, .int .i64 1]) w := run_build w _ _ _ (by kernel_rfl)
theorem mkA (x : Value) (w : World) : (Instr.makeInterface 48 x).run Try.prog w = .ok (.iface 48 x) w := by
  simp [Instr.makeInterface, go_sem, run_underlying Try.underlying48]
theorem mkAE (x : Value) (w : World) (es : Array Event) : (Instr.makeInterface 48 x).events Try.prog w es = es := by
  simp [Instr.makeInterface, go_sem, run_underlying Try.underlying48]
theorem adInfo : ∃ i, Try.prog.info? 48 = some i ∧ i.zero = some (.agg #[.pointer none, .int .i64 0]) ∧ i.size = 2 := by
  have h : (Try.prog.info? 48).map (fun i => (i.zero, i.size)) = some (some (.agg #[.pointer none, .int .i64 0]), 2) := by kernel_rfl
  obtain ⟨i, hi, hb⟩ := Option.map_eq_some_iff.1 h
  simp at hb
  exact ⟨i, hi, hb⟩
theorem bldAE (sb : Nat) (w : World) (es : Array Event) : (Instr.build 48 #[(0, pb sb), (1, .int .i64 1)]).events Try.prog w es = es := by
  obtain ⟨it, hit, h1, _⟩ := adInfo
  obtain ⟨i3, h3, g3⟩ := sz_of 3 (n := 1) (by kernel_rfl)
  obtain ⟨i9, h9, g9⟩ := sz_of 46 (n := 1) (by kernel_rfl)
  simp [Instr.build, go_sem, sizeOf, typeInfo, zeroValue, hit, h1, h3, g3, h9, g9]
set_option maxRecDepth 100000 in
set_option maxHeartbeats 8000000 in
theorem c_f1 {Sh : Loc → Prop} {W : World} {main : Bool} (hS : ShOk Sh W) {sP sM sX : Value} :
    ∃ k, ∀ (Qx : Exit → Act → World → Prop) (T : Array Value) (w : World), T.size = 105 → T[0]? = some sP → T[1]? = some sM → T[2]? = some sX → Ext Vn W w →
      (lf cdF1).wpC Try.prog main (Ext Vn) (HDq (Cx0 Sh)) 6 k (Exit.then (fun a' w' => ∃ T sb, a' = ⟨T, []⟩ ∧ T.size = 105 ∧ T[0]? = some sP ∧ T[1]? = some sM ∧ T[2]? = some sX ∧ T[7]? = some (pb sb) ∧ Kn W [(sb, Obj.cells #[.int .i64 0] 3 (0, 0))] w') Qx) ⟨T, []⟩ w := by
  obtain ⟨it, hit, hz1, hz2, hz3⟩ := taskInfo
  have rl0 : ∀ {w w' : World}, Ext Vn W w → Ext Vn w w' → Ext Vn W w' := fun h r => h.trans r
  co_apply Exists.intro
  intro Qx T w hT h0 h1 h2 hE
  rw [arrG105 T hT]
  simp only [gv_of h0, gv_of h1, gv_of h2]
  simp only [cdF10, cdF9, cdF8, cdF7, cdF6, cdF5, cdF4, cdF3, cdF2, cdF1, bodyF, rt, lf, Try.f6, Option.getD_some]
  have hF : Kn W [] w := ⟨hE, by simp⟩
  clear hE
  co_reg (TT Sh)
  co_opw Kn.rl hF (skip) (rw [listed_nil (by simp [go_sem, *])]; exact al_hd (by simp))
  obtain ⟨sb, wz, hwz, hsz, hK⟩ := kn_new hF (.cells #[.int .i64 0] 3 (0, 0))
  rw [hwz, hsz]
  clear hwz hsz hF
  have hF := hK
  clear hK
  co_opw Kn.rl hF (have hb := hF.2 (sb, Obj.cells #[.int .i64 0] 3 (0, 0)) (by simp); have hc := cell_of_box hb.2; have hz := unf_of_box hb.2) (refine wr_own hS hb.1 (block_of_cell hc) (fun e he => ?_); have hm := mem_listed he; simp [go_sem, storedEv, events_store_int, *] at hm; exact hm)
  clear hb hc hz
  replace hF := hF.set (v' := .int .i64 0) (by simp)
  co_apply opsC_nil (TT Sh)
  co_then
  refine ⟨_, sb, rfl, rfl, rfl, rfl, rfl, rfl, hF⟩
set_option maxRecDepth 100000 in
set_option maxHeartbeats 8000000 in
theorem c_f2 {Sh : Loc → Prop} {W : World} {main : Bool} (hS : ShOk Sh W) {sP sM sX s7 : Value} :
    ∃ k, ∀ (Qx : Exit → Act → World → Prop) (T : Array Value) (w : World), T.size = 105 → T[0]? = some sP → T[1]? = some sM → T[2]? = some sX → T[7]? = some s7 → Ext Vn W w →
      (lf cdF2).wpC Try.prog main (Ext Vn) (HDq (Cx0 Sh)) 6 k (Exit.then (fun a' w' => ∃ T, a' = ⟨T, []⟩ ∧ T.size = 105 ∧ T[0]? = some sP ∧ T[1]? = some sM ∧ T[2]? = some sX ∧ T[7]? = some s7 ∧ T[8]? = some (.slice none 0 0) ∧ Ext Vn W w') Qx) ⟨T, []⟩ w := by
  obtain ⟨it, hit, hz1, hz2, hz3⟩ := taskInfo
  have rl0 : ∀ {w w' : World}, Ext Vn W w → Ext Vn w w' → Ext Vn W w' := fun h r => h.trans r
  co_apply Exists.intro
  intro Qx T w hT h0 h1 h2 h7 hF
  rw [arrG105 T hT]
  simp only [gv_of h0, gv_of h1, gv_of h2, gv_of h7]
  simp only [cdF10, cdF9, cdF8, cdF7, cdF6, cdF5, cdF4, cdF3, cdF2, cdF1, bodyF, rt, lf, Try.f6, Option.getD_some]
  co_reg (TT Sh)
  co_op rl0 hF (co_quiet (TT Sh))
  co_apply opsC_nil (TT Sh)
  co_then
  exact ⟨_, rfl, rfl, rfl, rfl, rfl, rfl, rfl, hF⟩
set_option maxRecDepth 100000 in
set_option maxHeartbeats 8000000 in
theorem c_f3 {Sh : Loc → Prop} {W : World} {main : Bool} (hS : ShOk Sh W) {sP sM : Value} {sb xe n : Nat} (hn1 : n ≤ xe % 70) (hn2 : xe % 70 ≤ n) (hxe : xe < 256) :
    ∃ k, ∀ (Qx : Exit → Act → World → Prop) (T : Array Value) (w : World), T.size = 105 → T[0]? = some sP → T[1]? = some sM → T[2]? = some (.int .u8 xe) → T[7]? = some (pb sb) → T[8]? = some (.slice none 0 0) → Ext Vn W w →
      (lf cdF3).wpC Try.prog main (Ext Vn) (HDq (Cx0 Sh)) 6 k (Exit.then (fun a' w' => ∃ T u, a' = ⟨T, []⟩ ∧ T.size = 105 ∧ T[0]? = some sP ∧ T[1]? = some sM ∧ T[7]? = some (pb sb) ∧ T[8]? = some u ∧ Ext Vn W w' ∧ w'.ownsRow W.heap.size 50 1 u n (List.replicate n (adV sb))) Qx) ⟨T, []⟩ w := by
  obtain ⟨it, hit, hz1, hz2, hz3⟩ := taskInfo
  have rl0 : ∀ {w w' : World}, Ext Vn W w → Ext Vn w w' → Ext Vn W w' := fun h r => h.trans r
  co_apply Exists.intro
  intro Qx T w hT h0 h1 h2 h7 h8 hF
  have hn69 : n ≤ 69 := by omega
  have rl : ∀ {u : Value} {l : List Value} {k : Nat} {w w' : World}, (Ext Vn W w ∧ w.ownsRow W.heap.size 50 1 u k l) → Ext Vn w w' → (Ext Vn W w' ∧ w'.ownsRow W.heap.size 50 1 u k l) := fun h r => ⟨h.1.trans r, ownsRow_ext h.2 r fun _ _ => id⟩
  rw [arrG105 T hT]
  simp only [gv_of h0, gv_of h1, gv_of h2, gv_of h7, gv_of h8]
  simp only [cdF10, cdF9, cdF8, cdF7, cdF6, cdF5, cdF4, cdF3, cdF2, cdF1, bodyF, rt, lf, Try.f6, Option.getD_some]
  have hrm : (xe : Int).tmod 70 = ((xe % 70 : Nat) : Int) := rfl
  have hne : xe % 70 = n := by omega
  have hcv : IntKind.i64.wrap (n : Int) = n := by rw [IntKind.wrap_i64]; omega
  have hcu : IntKind.u8.wrap (n : Int) = n := by simp [IntKind.wrap, IntKind.signed, IntKind.bits]; omega
  co_apply wpC_seq (TT Sh)
  co_reg (TT Sh)
  co_op rl0 hF (co_quiet (TT Sh))
  co_opw rl0 hF (skip) (co_still (TT Sh))
  try simp only [hrm, hne, hcu, hcv]
  co_op rl0 hF (co_quiet (TT Sh))
  try simp only [hrm, hne, hcu, hcv]
  co_op rl0 hF (co_quiet (TT Sh))
  co_apply opsC_nil (TT Sh)
  co_then
  co_apply wpC_block (TT Sh)
  co_apply wpC_loop (TT Sh) (fun a' w' => ∃ (T : Array Value) (i : Nat) (u : Value), a' = ⟨T, []⟩ ∧ T.size = 105 ∧ T[0]? = some (sP) ∧ T[1]? = some (sM) ∧ T[7]? = some (pb sb) ∧ T[8]? = some (u) ∧ T[21]? = some (.int .i64 n) ∧ T[22]? = some (.int .i64 i) ∧ i ≤ n ∧ Ext Vn W w' ∧ w'.ownsRow W.heap.size 50 1 u i (List.replicate i (adV sb))) (fun a' _ => n - slotN a' 22) _ (n)
  · exact ⟨_, 0, .slice none 0 0, rfl, rfl, rfl, rfl, rfl, rfl, by first | rfl | simp [*], rfl, by omega, hF, by simpa using World.ownsRow_nil _ _ _ _⟩
  · simp [slotN]
  clear hF w
  rintro a' w ⟨T, i, u, rfl, hT, h0, h1, h7, h8, h21, h22, hi, hF⟩
  rw [arrG105 T hT]
  simp only [gv_of h0, gv_of h1, gv_of h7, gv_of h8, gv_of h21, gv_of h22]
  co_apply wpC_seq (TT Sh)
  co_reg (TT Sh)
  co_op rl hF (co_quiet (TT Sh))
  co_apply opsC_nil (TT Sh)
  co_then
  co_apply wpC_seq (TT Sh)
  co_split (TT Sh) (decide ((i : Int) < (n : Int)))
  · intro ht
    have hil : i < n := by simpa using ht
    co_apply wpC_skip (TT Sh)
    co_then
    co_apply wpC_seq (TT Sh)
    co_apply wpC_block (TT Sh)
    co_reg (TT Sh)
    co_op rl hF (co_quiet (TT Sh))
    co_opw rl hF (have hm := bldA sb; have hm' := bldAE sb) (rw [listed_nil (by simp [go_sem, *])]; exact Terms.idle (TT Sh) _)
    co_opw rl hF (have hm := mkA; have hm' := mkAE) (rw [listed_nil (by simp [go_sem, *])]; exact Terms.idle (TT Sh) _)
    co_opw rl hF (have hm := btA sb; have hm' := btAE sb) (rw [listed_nil (by simp [go_sem, *])]; exact al_hd (by simp))
    have hF2 := And.intro (ext_alloc hF.1 (.cells #[adV sb] 50)) (hF.2.alloc (.cells #[adV sb] 50))
    co_apply opsC_append hS (by rfl) (by rfl) (.tmp 24) (.tmp 27) 32 (by rfl) (by kernel_rfl) hit hz1 hz2 hz3 (by rfl) (by omega) (by rfl) (by rfl) (by omega) (news := [adV sb]) (by rfl) (by simp [Value.oneCell']) (by simp only [maxLen]; omega) (by omega) hF2 (news_at _ _ _ _ (by rfl)) (by exact hF.1.size)
    clear hF hF2 hm hm'
    intro v' w' hF
    try walk_nrm
    co_op rl hF (co_quiet (TT Sh))
    co_apply opsC_nil (TT Sh)
    co_then
    co_reg (TT Sh)
    co_op rl hF (co_quiet (TT Sh))
    co_op rl hF (co_quiet (TT Sh))
    co_apply opsC_nil (TT Sh)
    co_then
    have hwr : IntKind.i64.wrap ((i : Int) + 1) = ((i + 1 : Nat) : Int) := by rw [IntKind.wrap_i64]; omega
    refine ⟨⟨_, i + 1, _, rfl, rfl, rfl, rfl, rfl, rfl, rfl, by simp [hwr], by omega, hF.1, ?_⟩, ?_⟩
    · rw [List.replicate_succ']
      exact hF.2
    · simp [slotN, hwr]; omega
  · intro ht
    have hil : i = n := by have : ¬ i < n := (by simpa using ht); omega
    co_apply wpC_exit (TT Sh)
    co_then
    refine ⟨_, _, rfl, rfl, rfl, rfl, rfl, rfl, hF.1, ?_⟩
    have h2 := hF.2
    rw [hil] at h2
    exact h2
end
end Go.Proofs.Ytggfcdhkgldbfaa
