/-
  PARTS of a claim, merged by segs.py: CwSh2.
-/
import Derived.Test.YtggfcdhkgldbfaaDoorS36
import Derived.Test.YtggfcdhkgldbfaaDoorS37
import Derived.Test.YtggfcdhkgldbfaaDoorS39
namespace Go.Proofs.YtggfcdhkgldbfaaDoor
set_option linter.unusedSimpArgs false
set_option linter.unusedVariables false

/-! ### CwSh2 -/
section
set_option linter.unusedSimpArgs false
open Go Go.Conc Go.RowKit Go.ConcR.Gen Cw

noncomputable def bodyShr : Code := Tryd.f3.body.getD .skip
noncomputable def cdH1 : Code := rt (rt bodyShr)
noncomputable def cdH2 : Code := rt cdH1
noncomputable def cdH3 : Code := rt cdH2
noncomputable def cdH4 : Code := rt cdH3
noncomputable def cdH5 : Code := rt cdH4
noncomputable def cdH6 : Code := rt cdH5
noncomputable def cdH7 : Code := rt cdH6
noncomputable def cdH8 : Code := rt cdH7
noncomputable def cdH9 : Code := rt cdH8
noncomputable def cdH10 : Code := rt cdH9
noncomputable def cdH11 : Code := rt cdH10
noncomputable def cdH12 : Code := rt cdH11
abbrev fSh (T : Array Value) (k : List Item) : Frame := (base 3).at ⟨T, []⟩ k
theorem arrG94 (T : Array Value) (h : T.size = 94) : T = #[gv T 0, gv T 1, gv T 2, gv T 3, gv T 4, gv T 5, gv T 6, gv T 7, gv T 8, gv T 9, gv T 10, gv T 11, gv T 12, gv T 13, gv T 14, gv T 15, gv T 16, gv T 17, gv T 18, gv T 19, gv T 20, gv T 21, gv T 22, gv T 23, gv T 24, gv T 25, gv T 26, gv T 27, gv T 28, gv T 29, gv T 30, gv T 31, gv T 32, gv T 33, gv T 34, gv T 35, gv T 36, gv T 37, gv T 38, gv T 39, gv T 40, gv T 41, gv T 42, gv T 43, gv T 44, gv T 45, gv T 46, gv T 47, gv T 48, gv T 49, gv T 50, gv T 51, gv T 52, gv T 53, gv T 54, gv T 55, gv T 56, gv T 57, gv T 58, gv T 59, gv T 60, gv T 61, gv T 62, gv T 63, gv T 64, gv T 65, gv T 66, gv T 67, gv T 68, gv T 69, gv T 70, gv T 71, gv T 72, gv T 73, gv T 74, gv T 75, gv T 76, gv T 77, gv T 78, gv T 79, gv T 80, gv T 81, gv T 82, gv T 83, gv T 84, gv T 85, gv T 86, gv T 87, gv T 88, gv T 89, gv T 90, gv T 91, gv T 92, gv T 93] := (arr_eq T 94 h).trans (by rfl)
/-- The three bytes. -/
abbrev cel3 (a : Nat → Nat) : Array Value := #[.int .u8 (a 0), .int .u8 (a 1), .int .u8 (a 2)]
def tm3 (a : Nat → Nat) (k : Nat) : Nat := if k < 3 then a k % 8 else 0
set_option maxRecDepth 100000 in
set_option maxHeartbeats 8000000 in
theorem c_s1 {Sh : Loc → Prop} {W : World} {main : Bool} (hS : ShOk Sh W) {sP s3 : Value} :
    ∃ k, ∀ (Qx : Exit → Act → World → Prop) (T : Array Value) (w : World), T.size = 94 → T[0]? = some sP → T[3]? = some s3 → Ext Vn W w →
      (lf cdH1).wpC Tryd.prog main (Ext Vn) (HDq (Cx0 Sh)) 3 k (Exit.then (fun a' w' => ∃ T sb, a' = ⟨T, []⟩ ∧ T.size = 94 ∧ T[0]? = some sP ∧ T[3]? = some s3 ∧ T[5]? = some (pb sb) ∧ Kn W [(sb, Obj.cells #[.int .i64 0] 3 (0, 0))] w') Qx) ⟨T, []⟩ w := by
  have rl0 : ∀ {w w' : World}, Ext Vn W w → Ext Vn w w' → Ext Vn W w' := fun h r => h.trans r
  co_apply Exists.intro
  intro Qx T w hT h0 h3 hE
  rw [arrG94 T hT]
  simp only [gv_of h0, gv_of h3]
  simp only [cdH12, cdH11, cdH10, cdH9, cdH8, cdH7, cdH6, cdH5, cdH4, cdH3, cdH2, cdH1, bodyShr, rt, lf, Tryd.f3, Option.getD_some]
  have hF : Kn W [] w := ⟨hE, by simp⟩
  clear hE
  co_reg (TT Sh)
  co_opw Kn.rl hF (skip) (rw [listed_nil (by simp [go_sem, *])]; exact al_hd (by simp))
  obtain ⟨sb, wz, hwz, hsz, hK⟩ := kn_new hF (.cells #[.int .i64 0] 3 (0, 0))
  rw [hwz, hsz]
  clear hwz hsz hF
  have hF := hK
  clear hK
  co_opw Kn.rl hF (have hb := hF.2 (sb, Obj.cells #[.int .i64 0] 3 (0, 0)) (by simp); have hc := cell_of_box hb.2; have hz := unf_of_box hb.2) (refine wr_own hS hb.1 (block_of_cell hc) (fun e he => ?_); have hm := mem_listed he; simp [go_sem, storedEv, events_store_int, *] at hm; exact hm)
  clear hb hc hz
  replace hF := hF.set (v' := .int .i64 0) (by simp)
  co_apply opsC_nil (TT Sh)
  co_then
  refine ⟨_, sb, rfl, rfl, rfl, rfl, rfl, hF⟩
set_option maxRecDepth 100000 in
set_option maxHeartbeats 8000000 in
theorem c_s2 {Sh : Loc → Prop} {W : World} {main : Bool} (hS : ShOk Sh W) {sP s3 s5 : Value} :
    ∃ k, ∀ (Qx : Exit → Act → World → Prop) (T : Array Value) (w : World), T.size = 94 → T[0]? = some sP → T[3]? = some s3 → T[5]? = some s5 → Ext Vn W w →
      (lf cdH2).wpC Tryd.prog main (Ext Vn) (HDq (Cx0 Sh)) 3 k (Exit.then (fun a' w' => ∃ T, a' = ⟨T, []⟩ ∧ T.size = 94 ∧ T[0]? = some sP ∧ T[3]? = some s3 ∧ T[5]? = some s5 ∧ T[6]? = some (.slice none 0 0) ∧ Ext Vn W w') Qx) ⟨T, []⟩ w := by
  have rl0 : ∀ {w w' : World}, Ext Vn W w → Ext Vn w w' → Ext Vn W w' := fun h r => h.trans r
  co_apply Exists.intro
  intro Qx T w hT h0 h3 h5 hF
  rw [arrG94 T hT]
  simp only [gv_of h0, gv_of h3, gv_of h5]
  simp only [cdH12, cdH11, cdH10, cdH9, cdH8, cdH7, cdH6, cdH5, cdH4, cdH3, cdH2, cdH1, bodyShr, rt, lf, Tryd.f3, Option.getD_some]
  co_reg (TT Sh)
  co_op rl0 hF (co_quiet (TT Sh))
  co_apply opsC_nil (TT Sh)
  co_then
  exact ⟨_, rfl, rfl, rfl, rfl, rfl, rfl, hF⟩
theorem bldT (sb m : Nat) (w : World) : (Instr.build 28 #[(0, pb sb), (1, .int .i64 m)]).run Tryd.prog w = .ok (.agg #[pb sb, .int .i64 m]) w := run_build w _ _ _ (by kernel_rfl)
theorem bldTE (sb m : Nat) (w : World) (es : Array Event) : (Instr.build 28 #[(0, pb sb), (1, .int .i64 m)]).events Tryd.prog w es = es := by
  obtain ⟨it, hit, h1, _⟩ := adInfo
  obtain ⟨i3, h3, g3⟩ := sz_of 3 (n := 1) (by kernel_rfl)
  obtain ⟨i9, h9, g9⟩ := sz_of 26 (n := 1) (by kernel_rfl)
  simp [Instr.build, go_sem, sizeOf, typeInfo, zeroValue, hit, h1, h3, g3, h9, g9]
abbrev adT (sb m : Nat) : Value := .iface 28 (.agg #[pb sb, .int .i64 m])
def tvL (sb : Nat) (a : Nat → Nat) (i : Nat) : List Value := (List.range i).map fun k => adT sb (a k % 8)
theorem tvL_succ (sb : Nat) (a : Nat → Nat) (i : Nat) : tvL sb a (i + 1) = tvL sb a i ++ [adT sb (a i % 8)] := by simp [tvL, List.range_succ]
theorem btT (sb m : Nat) (w : World) : (Instr.buildSlice 25 1 #[(0, adT sb m)]).run Tryd.prog w = .ok (.slice (some ⟨w.heap.size, 0, none⟩) 1 1) (w.alloc (.cells #[adT sb m] 49)) := by
  obtain ⟨it, hit, h1, h2, _⟩ := taskInfo
  refine run_buildSlice w _ _ 1 _ _ it _ (by kernel_rfl) hit h1 (by rw [h2]; omega) (by rw [h2]; omega) ?_
  rw [h2]
  kernel_rfl
theorem btTE (sb m : Nat) (w : World) (es : Array Event) : (Instr.buildSlice 25 1 #[(0, adT sb m)]).events Tryd.prog w es = es := by
  obtain ⟨it, hit, h1, h2, _⟩ := taskInfo
  simp [Instr.buildSlice, go_sem, sizeOf, typeInfo, zeroValue, hit, h1, h2]
theorem arr3u : Tryd.prog.underlying 23 = some (.array 3 5) := Tryd.underlying23
theorem szU8 : Tryd.t5.size = 1 := by kernel_rfl
theorem ixS (a : Nat → Nat) {i : Nat} (hi : i < 3) (w : World) : (Instr.index 23 (.agg (cel3 a)) (.int .i64 i)).run Tryd.prog w = .ok (.int .u8 (a i)) w := by
  rcases (by omega : i = 0 ∨ i = 1 ∨ i = 2) with rfl | rfl | rfl <;> simp [Instr.index, go_sem, run_underlying Tryd.underlying23, asIntOf, part, isAgg, sizeOf, szU8]
theorem ixSE (a : Nat → Nat) {i : Nat} (hi : i < 3) (w : World) (es : Array Event) : (Instr.index 23 (.agg (cel3 a)) (.int .i64 i)).events Tryd.prog w es = es := by
  rcases (by omega : i = 0 ∨ i = 1 ∨ i = 2) with rfl | rfl | rfl <;> simp [Instr.index, go_sem, run_underlying Tryd.underlying23, asIntOf, part, isAgg, sizeOf, szU8]
set_option maxRecDepth 100000 in
set_option maxHeartbeats 8000000 in
theorem c_s3 {Sh : Loc → Prop} {W : World} {main : Bool} (hS : ShOk Sh W) {sP : Value} {sb tb : Nat} {a : Nat → Nat} (ha : ∀ k, a k < 256) (h30 : W.cell? ⟨tb, 0, none⟩ = some (.int .u8 (a 0))) (h31 : W.cell? ⟨tb, 1, none⟩ = some (.int .u8 (a 1))) (h32 : W.cell? ⟨tb, 2, none⟩ = some (.int .u8 (a 2))) :
    ∃ k, ∀ (Qx : Exit → Act → World → Prop) (T : Array Value) (w : World), T.size = 94 → T[0]? = some sP → T[3]? = some (pb tb) → T[5]? = some (pb sb) → T[6]? = some (.slice none 0 0) → Ext Vn W w →
      (lf cdH3).wpC Tryd.prog main (Ext Vn) (HDq (Cx0 Sh)) 3 k (Exit.then (fun a' w' => ∃ T u, a' = ⟨T, []⟩ ∧ T.size = 94 ∧ T[0]? = some sP ∧ T[3]? = some (pb tb) ∧ T[5]? = some (pb sb) ∧ T[6]? = some u ∧ Ext Vn W w' ∧ w'.ownsRow W.heap.size 49 1 u 3 (tvL sb a 3)) Qx) ⟨T, []⟩ w := by
  have rl0 : ∀ {w w' : World}, Ext Vn W w → Ext Vn w w' → Ext Vn W w' := fun h r => h.trans r
  co_apply Exists.intro
  intro Qx T w hT h0 h3 h5 h6 hF
  have rl : ∀ {u : Value} {l : List Value} {k : Nat} {w w' : World}, (Ext Vn W w ∧ w.ownsRow W.heap.size 49 1 u k l) → Ext Vn w w' → (Ext Vn W w' ∧ w'.ownsRow W.heap.size 49 1 u k l) := fun h r => ⟨h.1.trans r, ownsRow_ext h.2 r fun _ _ => id⟩
  obtain ⟨it, hit, hz1, hz2, hz3⟩ := taskInfo
  rw [arrG94 T hT]
  simp only [gv_of h0, gv_of h3, gv_of h5, gv_of h6]
  simp only [cdH12, cdH11, cdH10, cdH9, cdH8, cdH7, cdH6, cdH5, cdH4, cdH3, cdH2, cdH1, bodyShr, rt, lf, Tryd.f3, Option.getD_some]
  co_apply wpC_seq (TT Sh)
  co_reg (TT Sh)
  co_opw rl0 hF (have hc0 := cell_ext hF h30; have hc1 := cell_ext hF h31; have hc2 := cell_ext hF h32) (refine hdq_read (fun e he => ?_); have hm := mem_listed he; simp [go_sem, *] at hm; rcases hm with rfl | rfl | rfl; exact ⟨_, rfl, block_of_cell hc0, sh_no hS h30 (by rfl)⟩; exact ⟨_, rfl, block_of_cell hc1, sh_no hS h31 (by rfl)⟩; exact ⟨_, rfl, block_of_cell hc2, sh_no hS h32 (by rfl)⟩)
  clear hc0 hc1 hc2
  co_op rl0 hF (co_quiet (TT Sh))
  co_apply opsC_nil (TT Sh)
  co_then
  co_apply wpC_block (TT Sh)
  co_apply wpC_loop (TT Sh) (fun a' w' => ∃ (T : Array Value) (i : Nat) (u : Value), a' = ⟨T, []⟩ ∧ T.size = 94 ∧ T[0]? = some (sP) ∧ T[3]? = some (pb tb) ∧ T[5]? = some (pb sb) ∧ T[6]? = some (u) ∧ T[26]? = some (.agg (cel3 a)) ∧ T[27]? = some (.int .i64 i) ∧ i ≤ 3 ∧ Ext Vn W w' ∧ w'.ownsRow W.heap.size 49 1 u i (tvL sb a i)) (fun a' _ => 3 - slotN a' 27) _ (3)
  · exact ⟨_, 0, .slice none 0 0, rfl, rfl, rfl, rfl, rfl, rfl, rfl, rfl, by omega, hF, by simpa [tvL] using World.ownsRow_nil _ _ _ _⟩
  · simp [slotN]
  clear hF w
  rintro a' w ⟨T, i, u, rfl, hT, h0, h3, h5, h6, h26, h27, hi, hF⟩
  rw [arrG94 T hT]
  simp only [gv_of h0, gv_of h3, gv_of h5, gv_of h6, gv_of h26, gv_of h27]
  co_apply wpC_seq (TT Sh)
  co_reg (TT Sh)
  co_op rl hF (co_quiet (TT Sh))
  co_apply opsC_nil (TT Sh)
  co_then
  co_apply wpC_seq (TT Sh)
  co_split (TT Sh) (decide ((i : Int) < 3))
  · intro ht
    have hil : i < 3 := by have := of_decide_eq_true ht; omega
    co_apply wpC_skip (TT Sh)
    co_then
    have ha256 := ha i
    obtain ⟨m, hm1, hm2⟩ : ∃ m, m ≤ a i % 8 ∧ a i % 8 ≤ m := ⟨_, Nat.le_refl _, Nat.le_refl _⟩
    have hcv : IntKind.i64.wrap ((a i : Int).tmod 8) = (m : Int) := by rw [show ((a i : Int)).tmod 8 = ((a i % 8 : Nat) : Int) from rfl, IntKind.wrap_i64]; omega
    co_apply wpC_seq (TT Sh)
    co_apply wpC_block (TT Sh)
    co_apply wpC_seq (TT Sh)
    co_reg (TT Sh)
    co_opw rl hF (have hm := ixS a hil; have hm' := ixSE a hil) (rw [listed_nil (by simp [go_sem, *])]; exact Terms.idle (TT Sh) _)
    clear hm hm'
    co_op rl hF (co_quiet (TT Sh))
    co_apply opsC_nil (TT Sh)
    co_then
    co_reg (TT Sh)
    co_op rl hF (co_quiet (TT Sh))
    co_op rl hF (co_quiet (TT Sh))
    co_opw rl hF (skip) (co_still (TT Sh))
    co_opw rl hF (skip) (co_still (TT Sh))
    try simp only [hcv]
    co_opw rl hF (have hm := bldT sb m; have hm' := bldTE sb m) (rw [listed_nil (by simp [go_sem, *])]; exact Terms.idle (TT Sh) _)
    co_opw rl hF (have hm := mkA; have hm' := mkAE) (rw [listed_nil (by simp [go_sem, *])]; exact Terms.idle (TT Sh) _)
    co_opw rl hF (have hm := btT sb m; have hm' := btTE sb m) (rw [listed_nil (by simp [go_sem, *])]; exact al_hd (by simp))
    have hF2 := And.intro (ext_alloc hF.1 (.cells #[adT sb m] 49)) (hF.2.alloc (.cells #[adT sb m] 49))
    co_apply opsC_append hS (by rfl) (by rfl) (.tmp 30) (.tmp 36) 25 (by rfl) (by kernel_rfl) hit hz1 hz2 hz3 (by rfl) (by omega) (by rfl) (by rfl) (by omega) (news := [adT sb m]) (by rfl) (by simp [Value.oneCell']) (by simp only [maxLen]; omega) (by omega) hF2 (news_at _ _ _ _ (by rfl)) (by exact hF.1.size)
    clear hF hF2 hm hm'
    intro v' w' hF
    try walk_nrm
    co_op rl hF (co_quiet (TT Sh))
    co_apply opsC_nil (TT Sh)
    co_then
    co_reg (TT Sh)
    co_op rl hF (co_quiet (TT Sh))
    co_op rl hF (co_quiet (TT Sh))
    co_apply opsC_nil (TT Sh)
    co_then
    have hwr : IntKind.i64.wrap ((i : Int) + 1) = ((i + 1 : Nat) : Int) := by rw [IntKind.wrap_i64]; omega
    refine ⟨⟨_, i + 1, _, rfl, rfl, rfl, rfl, rfl, rfl, rfl, by simp [hwr], by omega, hF.1, ?_⟩, ?_⟩
    · have h2 := hF.2
      rw [show m = a i % 8 by omega] at h2
      rw [tvL_succ]
      exact h2
    · simp [slotN, hwr]; omega
  · intro ht
    have hil : i = 3 := by have := of_decide_eq_false ht; omega
    co_apply wpC_exit (TT Sh)
    co_then
    refine ⟨_, _, rfl, rfl, rfl, rfl, rfl, rfl, hF.1, ?_⟩
    have h2 := hF.2
    rw [hil] at h2
    exact h2
theorem zInt3 (w : World) : (Instr.build 35 #[]).run Tryd.prog w = .ok (.agg #[.int .i64 0, .int .i64 0, .int .i64 0]) w := run_build w _ _ _ (by kernel_rfl)
theorem zBool3 (w : World) : (Instr.build 36 #[]).run Tryd.prog w = .ok (.agg #[.bool false, .bool false, .bool false]) w := run_build w _ _ _ (by kernel_rfl)
theorem info3i : ∃ i, Tryd.prog.info? 35 = some i ∧ i.zero = some (.agg #[.int .i64 0, .int .i64 0, .int .i64 0]) ∧ i.size = 3 := by
  have h : (Tryd.prog.info? 35).map (fun i => (i.zero, i.size)) = some (some (.agg #[.int .i64 0, .int .i64 0, .int .i64 0]), 3) := by kernel_rfl
  obtain ⟨i, hi, hb⟩ := Option.map_eq_some_iff.1 h
  simp at hb
  exact ⟨i, hi, hb⟩
theorem info3b : ∃ i, Tryd.prog.info? 36 = some i ∧ i.zero = some (.agg #[.bool false, .bool false, .bool false]) ∧ i.size = 3 := by
  have h : (Tryd.prog.info? 36).map (fun i => (i.zero, i.size)) = some (some (.agg #[.bool false, .bool false, .bool false]), 3) := by kernel_rfl
  obtain ⟨i, hi, hb⟩ := Option.map_eq_some_iff.1 h
  simp at hb
  exact ⟨i, hi, hb⟩
theorem zInt3E (w : World) (es : Array Event) : (Instr.build 35 #[]).events Tryd.prog w es = es := by
  obtain ⟨it, hit, h1, _⟩ := info3i
  obtain ⟨i3, h3, g3⟩ := sz_of 3 (n := 1) (by kernel_rfl)
  simp [Instr.build, go_sem, sizeOf, typeInfo, zeroValue, hit, h1, h3, g3]
theorem zBool3E (w : World) (es : Array Event) : (Instr.build 36 #[]).events Tryd.prog w es = es := by
  obtain ⟨it, hit, h1, _⟩ := info3b
  obtain ⟨i3, h3, g3⟩ := sz_of 4 (n := 1) (by kernel_rfl)
  simp [Instr.build, go_sem, sizeOf, typeInfo, zeroValue, hit, h1, h3, g3]
theorem put3_hd {Sh : Loc → Prop} {W w : World} (hS : ShOk Sh W) (hE : Ext Vn W w) {b : Nat} (hb : W.heap.size ≤ b) (hlt : b < w.heap.size) {v0 v1 v2 : Value} {es : Array Event} (hes : ∀ e ∈ es, e = ⟨.cell ⟨b, 0, none⟩, true, false⟩ ∨ e = ⟨.cell ⟨b, 1, none⟩, true, false⟩ ∨ e = ⟨.cell ⟨b, 2, none⟩, true, false⟩) :
    HDq (Cx0 Sh) w (((w.setCell ⟨b, 0, none⟩ v0).setCell ⟨b, 1, none⟩ v1).setCell ⟨b, 2, none⟩ v2) es := by
  have F := floor0 hS
  have hsz : w.heap.size ≤ (((w.setCell ⟨b, 0, none⟩ v0).setCell ⟨b, 1, none⟩ v1).setCell ⟨b, 2, none⟩ v2).heap.size := by rw [size_setCell', size_setCell', size_setCell']; exact Nat.le_refl _
  refine hdq_grown F hE.size (row := some b) ⟨rfl, rfl, rfl, hsz, fun x hx hne => ?_⟩ (fun g hg => ?_) fun e he => .inl ?_
  · have hb' : x ≠ b := fun e => hne (by rw [e])
    rw [heap_setCell_ne _ _ _ hb', heap_setCell_ne _ _ _ hb', heap_setCell_ne _ _ _ hb']
  · cases hg
    exact ⟨F.ok hb, nobox _⟩
  · rcases hes e he with rfl | rfl | rfl
    · exact ⟨_, rfl, Nat.lt_of_lt_of_le hlt hsz, (F.ok hb).sh _ rfl, fun _ hp => hp.elim (fun h => h) fun x => nobox _ x.2.2⟩
    · exact ⟨_, rfl, Nat.lt_of_lt_of_le hlt hsz, (F.ok hb).sh _ rfl, fun _ hp => hp.elim (fun h => h) fun x => nobox _ x.2.2⟩
    · exact ⟨_, rfl, Nat.lt_of_lt_of_le hlt hsz, (F.ok hb).sh _ rfl, fun _ hp => hp.elim (fun h => h) fun x => nobox _ x.2.2⟩
theorem rq_of_kn {W w : World} {pv pl pr pp : Nat} (h : Kn W [(pp, Obj.cells #[.bool false, .bool false, .bool false] 36 (0, 0)), (pr, Obj.cells #[.int .i64 0, .int .i64 0, .int .i64 0] 35 (0, 0)), (pl, Obj.cells #[.int .i64 0, .int .i64 0, .int .i64 0] 35 (0, 0)), (pv, Obj.cells #[.int .i64 0] 3 (0, 0))] w) (h1 : pv < pl) (h2 : pl < pr) (h3 : pr < pp) : RQ W pv pl pr pp 0 [0, 0, 0] [0, 0, 0] [false, false, false] w :=
  by
  have m1 := h.2 _ (.head _)
  have m2 := h.2 _ (.tail _ (.head _))
  have m3 := h.2 _ (.tail _ (.tail _ (.head _)))
  have m4 := h.2 _ (.tail _ (.tail _ (.tail _ (.head _))))
  exact ⟨h.1, ⟨m4.1, h1, h2, h3⟩, m4.2, m3.2, m2.2, m1.2⟩
theorem Kn.perm {W w : World} {l l' : List (Nat × Obj)} (h : Kn W l w) (hl : ∀ x ∈ l', x ∈ l) : Kn W l' w := ⟨h.1, fun x hx => h.2 x (hl x hx)⟩
theorem kn_new2 {W w : World} {l : List (Nat × Obj)} (h : Kn W l w) (o : Obj) : ∃ b wz, w.alloc o = wz ∧ w.heap.size = b ∧ (∀ x ∈ l, x.1 < b) ∧ Kn W ((b, o) :: l) wz := ⟨_, _, rfl, rfl, fun x hx => (Array.getElem?_eq_some_iff.1 (h.2 x hx).2).1, h.alloc o⟩
set_option maxRecDepth 100000 in
set_option maxHeartbeats 8000000 in
theorem c_s6 {Sh : Loc → Prop} {W : World} {main : Bool} (hS : ShOk Sh W) {s3 s5 s9 s10 s11 : Value} :
    ∃ k, ∀ (Qx : Exit → Act → World → Prop) (T : Array Value) (w : World), T.size = 94 → T[3]? = some s3 → T[5]? = some s5 → T[9]? = some s9 → T[10]? = some s10 → T[11]? = some s11 → Ext Vn W w →
      (lf cdH6).wpC Tryd.prog main (Ext Vn) (HDq (Cx0 Sh)) 3 k (Exit.then (fun a' w' => ∃ T pv pl pr pp, a' = ⟨T, []⟩ ∧ T.size = 94 ∧ T[3]? = some s3 ∧ T[5]? = some s5 ∧ T[9]? = some s9 ∧ T[10]? = some s10 ∧ T[11]? = some s11 ∧ T[12]? = some (pb pv) ∧ T[13]? = some (pb pl) ∧ T[14]? = some (pb pr) ∧ T[15]? = some (pb pp) ∧ RQ W pv pl pr pp 0 [0, 0, 0] [0, 0, 0] [false, false, false] w') Qx) ⟨T, []⟩ w := by
  have rl0 : ∀ {w w' : World}, Ext Vn W w → Ext Vn w w' → Ext Vn W w' := fun h r => h.trans r
  co_apply Exists.intro
  intro Qx T w hT h3 h5 h9 h10 h11 hE
  rw [arrG94 T hT]
  simp only [gv_of h3, gv_of h5, gv_of h9, gv_of h10, gv_of h11]
  simp only [cdH12, cdH11, cdH10, cdH9, cdH8, cdH7, cdH6, cdH5, cdH4, cdH3, cdH2, cdH1, bodyShr, rt, lf, Tryd.f3, Option.getD_some]
  have hF : Kn W [] w := ⟨hE, by simp⟩
  clear hE
  co_reg (TT Sh)
  co_opw Kn.rl hF (have hm := zInt3; have hm' := zInt3E) (rw [listed_nil (by simp [go_sem, *])]; exact Terms.idle (TT Sh) _)
  clear hm hm'
  co_opw Kn.rl hF (have hm := zInt3; have hm' := zInt3E) (rw [listed_nil (by simp [go_sem, *])]; exact Terms.idle (TT Sh) _)
  clear hm hm'
  co_opw Kn.rl hF (have hm := zBool3; have hm' := zBool3E) (rw [listed_nil (by simp [go_sem, *])]; exact Terms.idle (TT Sh) _)
  clear hm hm'
  co_opw Kn.rl hF (skip) (rw [listed_nil (by simp [go_sem, *])]; exact al_hd (by simp))
  obtain ⟨pv, wz, hwz, hsz, hltpv, hK⟩ := kn_new2 hF (.cells #[.int .i64 0] 3 (0, 0))
  rw [hwz, hsz]
  clear hwz hsz hF
  have hF := hK
  clear hK
  co_opw Kn.rl hF (skip) (rw [listed_nil (by simp [go_sem, *])]; exact al_hd (by simp))
  obtain ⟨pl, wz, hwz, hsz, hltpl, hK⟩ := kn_new2 hF (.cells #[.int .i64 0, .int .i64 0, .int .i64 0] 35 (0, 0))
  rw [hwz, hsz]
  clear hwz hsz hF
  have hF := hK
  clear hK
  co_opw Kn.rl hF (skip) (rw [listed_nil (by simp [go_sem, *])]; exact al_hd (by simp))
  obtain ⟨pr, wz, hwz, hsz, hltpr, hK⟩ := kn_new2 hF (.cells #[.int .i64 0, .int .i64 0, .int .i64 0] 35 (0, 0))
  rw [hwz, hsz]
  clear hwz hsz hF
  have hF := hK
  clear hK
  co_opw Kn.rl hF (skip) (rw [listed_nil (by simp [go_sem, *])]; exact al_hd (by simp))
  obtain ⟨pp, wz, hwz, hsz, hltpp, hK⟩ := kn_new2 hF (.cells #[.bool false, .bool false, .bool false] 36 (0, 0))
  rw [hwz, hsz]
  clear hwz hsz hF
  have hF := hK
  clear hK
  have hQ := rq_of_kn hF (hltpl _ (.head _)) (hltpr _ (.head _)) (hltpp _ (.head _))
  clear hltpv hltpl hltpr hltpp hF
  have hF := hQ
  clear hQ
  co_opw RQ.rl hF (have hc := hF.cv; have hz := hF.zv 0) (refine wr_own hS (by have := hF.lo; show _ ≤ pv; omega) (block_of_cell hc) (fun e he => ?_); have hm := mem_listed he; simp [go_sem, storedEv, events_store_int, *] at hm; exact hm)
  clear hc hz
  replace hF := hF.setv 0
  co_opw RQ.rl hF (have hc0 := hF.cl (k := 0) rfl; have hz0 := hF.zl 0; have hc1 := hF.cl (k := 1) rfl; have hz1 := hF.zl 1; have hc2 := hF.cl (k := 2) rfl; have hz2 := hF.zl 2; have hd1 := (hF.setl 0 0).cl (k := 1) rfl; have hy1 := (hF.setl 0 0).zl 1; have hd2 := ((hF.setl 0 0).setl 1 0).cl (k := 2) rfl; have hy2 := ((hF.setl 0 0).setl 1 0).zl 2) (refine put3_hd hS hF.ext (by have := hF.lo; show _ ≤ pl; omega) (block_of_cell hc0) (fun e he => ?_); have hm := mem_listed he; simp [go_sem, storedEv, events_store_int, *] at hm; exact hm)
  clear hc0 hz0 hc1 hz1 hc2 hz2 hd1 hy1 hd2 hy2
  replace hF := ((hF.setl 0 0).setl 1 0).setl 2 0
  co_opw RQ.rl hF (have hc0 := hF.cr (k := 0) rfl; have hz0 := hF.zr 0; have hc1 := hF.cr (k := 1) rfl; have hz1 := hF.zr 1; have hc2 := hF.cr (k := 2) rfl; have hz2 := hF.zr 2; have hd1 := (hF.setr 0 0).cr (k := 1) rfl; have hy1 := (hF.setr 0 0).zr 1; have hd2 := ((hF.setr 0 0).setr 1 0).cr (k := 2) rfl; have hy2 := ((hF.setr 0 0).setr 1 0).zr 2) (refine put3_hd hS hF.ext (by have := hF.lo; show _ ≤ pr; omega) (block_of_cell hc0) (fun e he => ?_); have hm := mem_listed he; simp [go_sem, storedEv, events_store_int, *] at hm; exact hm)
  clear hc0 hz0 hc1 hz1 hc2 hz2 hd1 hy1 hd2 hy2
  replace hF := ((hF.setr 0 0).setr 1 0).setr 2 0
  co_opw RQ.rl hF (have hc0 := hF.cp (k := 0) rfl; have hz0 := hF.zp 0; have hc1 := hF.cp (k := 1) rfl; have hz1 := hF.zp 1; have hc2 := hF.cp (k := 2) rfl; have hz2 := hF.zp 2; have hd1 := (hF.setp 0 false).cp (k := 1) rfl; have hy1 := (hF.setp 0 false).zp 1; have hd2 := ((hF.setp 0 false).setp 1 false).cp (k := 2) rfl; have hy2 := ((hF.setp 0 false).setp 1 false).zp 2) (refine put3_hd hS hF.ext (by have := hF.lo; show _ ≤ pp; omega) (block_of_cell hc0) (fun e he => ?_); have hm := mem_listed he; simp [go_sem, storedEv, events_store_bool, *] at hm; exact hm)
  clear hc0 hz0 hc1 hz1 hc2 hz2 hd1 hy1 hd2 hy2
  replace hF := ((hF.setp 0 false).setp 1 false).setp 2 false
  co_apply opsC_nil (TT Sh)
  co_then
  exact ⟨_, pv, pl, pr, pp, rfl, rfl, rfl, rfl, rfl, rfl, rfl, rfl, rfl, rfl, rfl, hF⟩
def leftAt (a : Nat → Nat) (i : Nat) : List Nat := (List.range 3).map fun k => if k < i then a k % 8 else 0
theorem leftAt_set (a : Nat → Nat) {i : Nat} (h : i < 3) : (leftAt a i).set i (a i % 8) = leftAt a (i + 1) := by
  rcases (by omega : i = 0 ∨ i = 1 ∨ i = 2) with rfl | rfl | rfl <;> rfl
theorem leftAt_get (a : Nat → Nat) {i : Nat} (h : i < 3) : (leftAt a i)[i]? = some 0 := by
  rcases (by omega : i = 0 ∨ i = 1 ∨ i = 2) with rfl | rfl | rfl <;> rfl
theorem iaE23 (b t : Nat) (ht : (t : Int) < 3) (w : World) (es : Array Event) : (Instr.indexAt 23 (pb b) (.int .i64 t)).events Tryd.prog w es = es := by
  simp [Instr.indexAt, go_sem, run_underlying Tryd.underlying23, asIntOf, ht]
  try (intro h; omega)
set_option maxRecDepth 100000 in
set_option maxHeartbeats 8000000 in
theorem c_s7 {Sh : Loc → Prop} {W : World} {main : Bool} (hS : ShOk Sh W) {s5 s9 s10 s11 : Value} {pv pl pr pp tb : Nat} {a : Nat → Nat} (ha : ∀ k, a k < 256) (h30 : W.cell? ⟨tb, 0, none⟩ = some (.int .u8 (a 0))) (h31 : W.cell? ⟨tb, 1, none⟩ = some (.int .u8 (a 1))) (h32 : W.cell? ⟨tb, 2, none⟩ = some (.int .u8 (a 2))) :
    ∃ k, ∀ (Qx : Exit → Act → World → Prop) (T : Array Value) (w : World), T.size = 94 → T[3]? = some (pb tb) → T[5]? = some s5 → T[9]? = some s9 → T[10]? = some s10 → T[11]? = some s11 → T[12]? = some (pb pv) → T[13]? = some (pb pl) → T[14]? = some (pb pr) → T[15]? = some (pb pp) → RQ W pv pl pr pp 0 (leftAt a 0) [0, 0, 0] [false, false, false] w →
      (lf cdH7).wpC Tryd.prog main (Ext Vn) (HDq (Cx0 Sh)) 3 k (Exit.then (fun a' w' => ∃ T, a' = ⟨T, []⟩ ∧ T.size = 94 ∧ T[5]? = some s5 ∧ T[9]? = some s9 ∧ T[10]? = some s10 ∧ T[11]? = some s11 ∧ T[12]? = some (pb pv) ∧ T[13]? = some (pb pl) ∧ T[14]? = some (pb pr) ∧ T[15]? = some (pb pp) ∧ RQ W pv pl pr pp 0 (leftAt a 3) [0, 0, 0] [false, false, false] w') Qx) ⟨T, []⟩ w := by
  have rl0 : ∀ {w w' : World}, Ext Vn W w → Ext Vn w w' → Ext Vn W w' := fun h r => h.trans r
  co_apply Exists.intro
  intro Qx T w hT h3 h5 h9 h10 h11 h12 h13 h14 h15 hF
  rw [arrG94 T hT]
  simp only [gv_of h3, gv_of h5, gv_of h9, gv_of h10, gv_of h11, gv_of h12, gv_of h13, gv_of h14, gv_of h15]
  simp only [cdH12, cdH11, cdH10, cdH9, cdH8, cdH7, cdH6, cdH5, cdH4, cdH3, cdH2, cdH1, bodyShr, rt, lf, Tryd.f3, Option.getD_some]
  co_apply wpC_seq (TT Sh)
  co_reg (TT Sh)
  co_op RQ.rl hF (co_quiet (TT Sh))
  co_apply opsC_nil (TT Sh)
  co_then
  co_apply wpC_block (TT Sh)
  co_apply wpC_loop (TT Sh) (fun a' w' => ∃ (T : Array Value) (i : Nat), a' = ⟨T, []⟩ ∧ T.size = 94 ∧ T[3]? = some (pb tb) ∧ T[5]? = some (s5) ∧ T[9]? = some (s9) ∧ T[10]? = some (s10) ∧ T[11]? = some (s11) ∧ T[12]? = some (pb pv) ∧ T[13]? = some (pb pl) ∧ T[14]? = some (pb pr) ∧ T[15]? = some (pb pp) ∧ T[50]? = some (.int .i64 i) ∧ i ≤ 3 ∧ RQ W pv pl pr pp 0 (leftAt a i) [0, 0, 0] [false, false, false] w') (fun a' _ => 3 - slotN a' 50) _ (3)
  · exact ⟨_, 0, rfl, rfl, rfl, rfl, rfl, rfl, rfl, rfl, rfl, rfl, rfl, rfl, by omega, hF⟩
  · simp [slotN]
  clear hF w
  rintro a' w ⟨T, i, rfl, hT, h3, h5, h9, h10, h11, h12, h13, h14, h15, h50, hi, hF⟩
  rw [arrG94 T hT]
  simp only [gv_of h3, gv_of h5, gv_of h9, gv_of h10, gv_of h11, gv_of h12, gv_of h13, gv_of h14, gv_of h15, gv_of h50]
  co_apply wpC_seq (TT Sh)
  co_reg (TT Sh)
  co_op RQ.rl hF (co_quiet (TT Sh))
  co_apply opsC_nil (TT Sh)
  co_then
  co_apply wpC_seq (TT Sh)
  co_split (TT Sh) (decide ((i : Int) < 3))
  · intro ht
    have hil : i < 3 := by have := of_decide_eq_true ht; omega
    co_apply wpC_skip (TT Sh)
    co_then
    have hti : (i : Int) < 3 := by omega
    have ha256 := ha i
    obtain ⟨m, hm1, hm2⟩ : ∃ m, m ≤ a i % 8 ∧ a i % 8 ≤ m := ⟨_, Nat.le_refl _, Nat.le_refl _⟩
    have hcv : IntKind.i64.wrap ((a i : Int).tmod 8) = (m : Int) := by rw [show ((a i : Int)).tmod 8 = ((a i % 8 : Nat) : Int) from rfl, IntKind.wrap_i64]; omega
    have hWi : W.cell? ⟨tb, i, none⟩ = some (.int .u8 (a i)) := by
      rcases (by omega : i = 0 ∨ i = 1 ∨ i = 2) with rfl | rfl | rfl
      · exact h30
      · exact h31
      · exact h32
    co_apply wpC_seq (TT Sh)
    co_apply wpC_block (TT Sh)
    co_apply wpC_seq (TT Sh)
    co_reg (TT Sh)
    co_op RQ.rl hF (co_quiet (TT Sh))
    co_op RQ.rl hF (co_quiet (TT Sh))
    co_apply opsC_nil (TT Sh)
    co_then
    co_reg (TT Sh)
    co_op RQ.rl hF (co_quiet (TT Sh))
    co_op RQ.rl hF (co_quiet (TT Sh))
    co_opw RQ.rl hF (have hm' := iaE23 tb i hti) (rw [listed_nil (by simp [go_sem, *])]; exact Terms.idle (TT Sh) _)
    clear hm'
    co_opw RQ.rl hF (have hc := cell_ext hF.ext hWi) (refine rd_old hS hF.ext hWi (by rfl) (fun e he => ?_); have hm := mem_listed he; simp [go_sem, *] at hm; exact hm)
    clear hc
    co_opw RQ.rl hF (skip) (co_still (TT Sh))
    co_opw RQ.rl hF (skip) (co_still (TT Sh))
    try simp only [hcv]
    co_opw RQ.rl hF (have hm' := iaE35 pl i hti) (rw [listed_nil (by simp [go_sem, *])]; exact Terms.idle (TT Sh) _)
    clear hm'
    co_opw RQ.rl hF (have hc := hF.cl (leftAt_get a hil); have hz := hF.zl i) (refine wr_own hS (by have := hF.lo; show _ ≤ pl; omega) (block_of_cell hc) (fun e he => ?_); have hm := mem_listed he; simp [go_sem, storedEv, events_store_int, *] at hm; exact hm)
    clear hc hz
    have hF2 := hF.setl i m
    clear hF
    have hF := hF2
    clear hF2
    rw [show (leftAt a i).set i m = leftAt a (i + 1) by rw [show m = a i % 8 by omega]; exact leftAt_set a hil] at hF
    co_apply opsC_nil (TT Sh)
    co_then
    co_reg (TT Sh)
    co_op RQ.rl hF (co_quiet (TT Sh))
    co_op RQ.rl hF (co_quiet (TT Sh))
    co_apply opsC_nil (TT Sh)
    co_then
    have hwr : IntKind.i64.wrap ((i : Int) + 1) = ((i + 1 : Nat) : Int) := by rw [IntKind.wrap_i64]; omega
    refine ⟨⟨_, i + 1, rfl, rfl, rfl, rfl, rfl, rfl, rfl, rfl, rfl, rfl, rfl, by simp [hwr], by omega, hF⟩, ?_⟩
    simp [slotN, hwr]; omega
  · intro ht
    have hil : i = 3 := by have := of_decide_eq_false ht; omega
    co_apply wpC_exit (TT Sh)
    co_then
    rw [hil] at hF
    exact ⟨_, rfl, rfl, rfl, rfl, rfl, rfl, rfl, rfl, rfl, rfl, hF⟩
theorem rs_new {W w : World} {pv pl pr pp v : Nat} {left read : List Nat} {pend : List Bool} (h : RQ W pv pl pr pp v left read pend w) : ∃ pw wz, w.alloc (.cells #[.slice none 0 0] 37 (0, 0)) = wz ∧ w.heap.size = pw ∧ RS W pv pl pr pp pw ⟨v, left, read, pend, []⟩ (.slice none 0 0) wz :=
  ⟨_, _, rfl, rfl, h.rl (Ext.alloc Vn w _), (Array.getElem?_eq_some_iff.1 h.hp).1, heap_alloc_new w _, by simpa [evCells] using World.ownsRow_nil _ _ _ _⟩
set_option maxRecDepth 100000 in
set_option maxHeartbeats 8000000 in
theorem c_s8 {Sh : Loc → Prop} {W : World} {main : Bool} (hS : ShOk Sh W) {s5 s9 s10 s11 : Value} {pv pl pr pp v : Nat} {left read : List Nat} {pend : List Bool} :
    ∃ k, ∀ (Qx : Exit → Act → World → Prop) (T : Array Value) (w : World), T.size = 94 → T[5]? = some s5 → T[9]? = some s9 → T[10]? = some s10 → T[11]? = some s11 → T[12]? = some (pb pv) → T[13]? = some (pb pl) → T[14]? = some (pb pr) → T[15]? = some (pb pp) → RQ W pv pl pr pp v left read pend w →
      (lf cdH8).wpC Tryd.prog main (Ext Vn) (HDq (Cx0 Sh)) 3 k (Exit.then (fun a' w' => ∃ T pw, a' = ⟨T, []⟩ ∧ T.size = 94 ∧ T[5]? = some s5 ∧ T[9]? = some s9 ∧ T[10]? = some s10 ∧ T[11]? = some s11 ∧ T[12]? = some (pb pv) ∧ T[13]? = some (pb pl) ∧ T[14]? = some (pb pr) ∧ T[15]? = some (pb pp) ∧ T[17]? = some (pb pw) ∧ RS W pv pl pr pp pw ⟨v, left, read, pend, []⟩ (.slice none 0 0) w') Qx) ⟨T, []⟩ w := by
  have rl0 : ∀ {w w' : World}, Ext Vn W w → Ext Vn w w' → Ext Vn W w' := fun h r => h.trans r
  co_apply Exists.intro
  intro Qx T w hT h5 h9 h10 h11 h12 h13 h14 h15 hF
  rw [arrG94 T hT]
  simp only [gv_of h5, gv_of h9, gv_of h10, gv_of h11, gv_of h12, gv_of h13, gv_of h14, gv_of h15]
  simp only [cdH12, cdH11, cdH10, cdH9, cdH8, cdH7, cdH6, cdH5, cdH4, cdH3, cdH2, cdH1, bodyShr, rt, lf, Tryd.f3, Option.getD_some]
  co_reg (TT Sh)
  co_opw RQ.rl hF (skip) (rw [listed_nil (by simp [go_sem, *])]; exact al_hd (by simp))
  obtain ⟨pw, wz, hwz, hsz, hK⟩ := rs_new hF
  rw [hwz, hsz]
  clear hwz hsz hF
  have hF := hK
  clear hK
  co_apply opsC_nil (TT Sh)
  co_then
  exact ⟨_, pw, rfl, rfl, rfl, rfl, rfl, rfl, rfl, rfl, rfl, rfl, rfl, hF⟩
set_option maxRecDepth 100000 in
set_option maxHeartbeats 8000000 in
theorem c_s9 {Sh : Loc → Prop} {W : World} {main : Bool} (hS : ShOk Sh W) {s5 s9 s10 s11 : Value} {pv pl pr pp pw : Nat} {s : Sim} {u : Value} :
    ∃ k, ∀ (Qx : Exit → Act → World → Prop) (T : Array Value) (w : World), T.size = 94 → T[5]? = some s5 → T[9]? = some s9 → T[10]? = some s10 → T[11]? = some s11 → T[12]? = some (pb pv) → T[13]? = some (pb pl) → T[14]? = some (pb pr) → T[15]? = some (pb pp) → T[17]? = some (pb pw) → RS W pv pl pr pp pw s u w →
      (lf cdH9).wpC Tryd.prog main (Ext Vn) (HDq (Cx0 Sh)) 3 k (Exit.then (fun a' w' => ∃ T, a' = ⟨T, []⟩ ∧ T.size = 94 ∧ T[5]? = some s5 ∧ T[9]? = some s9 ∧ T[10]? = some s10 ∧ T[11]? = some s11 ∧ T[12]? = some (pb pv) ∧ T[17]? = some (pb pw) ∧ T[18]? = some (.func (.func 7) #[] #[pb pp, pb pr, pb pv, pb pl, pb pw]) ∧ RS W pv pl pr pp pw s u w') Qx) ⟨T, []⟩ w := by
  have rl0 : ∀ {w w' : World}, Ext Vn W w → Ext Vn w w' → Ext Vn W w' := fun h r => h.trans r
  co_apply Exists.intro
  intro Qx T w hT h5 h9 h10 h11 h12 h13 h14 h15 h17 hF
  rw [arrG94 T hT]
  simp only [gv_of h5, gv_of h9, gv_of h10, gv_of h11, gv_of h12, gv_of h13, gv_of h14, gv_of h15, gv_of h17]
  simp only [cdH12, cdH11, cdH10, cdH9, cdH8, cdH7, cdH6, cdH5, cdH4, cdH3, cdH2, cdH1, bodyShr, rt, lf, Tryd.f3, Option.getD_some]
  co_reg (TT Sh)
  co_opw RS.rl hF (skip) (rw [listed_nil (by simp [go_sem, *])]; exact Terms.idle (TT Sh) _)
  co_op RS.rl hF (co_quiet (TT Sh))
  co_apply opsC_nil (TT Sh)
  co_then
  exact ⟨_, rfl, rfl, rfl, rfl, rfl, rfl, rfl, rfl, rfl, hF⟩
end
end Go.Proofs.YtggfcdhkgldbfaaDoor
