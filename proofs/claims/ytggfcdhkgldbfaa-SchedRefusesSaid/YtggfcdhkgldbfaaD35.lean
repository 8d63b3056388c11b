/-
  PARTS of a claim, merged by segs.py: CwRf2.
-/
import Derived.Test.YtggfcdhkgldbfaaD34
namespace Go.Proofs.Ytggfcdhkgldbfaa
set_option linter.unusedSimpArgs false
set_option linter.unusedVariables false

/-! ### CwRf2 -/
section
set_option linter.unusedSimpArgs false
open Go Go.Conc Go.RowKit Go.ConcR.Gen Cw

/-- The tasks' row, in a block of the call's own. -/
structure RT (W : World) (gb : Nat) (vs : List Value) (w : World) : Prop where
  ext : Ext Vn W w
  lo : W.heap.size ≤ gb
  at_ : ∃ cur : Array Value, w.heap[gb]? = some (.cells cur 50 (0, 0)) ∧ ∀ (k : Nat) v, vs[k]? = some v → cur[k]? = some v
section
variable {W w w' : World} {gb : Nat} {vs : List Value}
theorem RT.rl (h : RT W gb vs w) (r : Ext Vn w w') : RT W gb vs w' := by
  obtain ⟨cur, h1, h2⟩ := h.at_
  exact ⟨h.ext.trans r, h.lo, cur, (r.same _ (Array.getElem?_eq_some_iff.1 h1).1 id).trans h1, h2⟩
theorem RT.cell (h : RT W gb vs w) {k : Nat} {v : Value} (hk : vs[k]? = some v) : w.cell? ⟨gb, k, none⟩ = some v := by
  obtain ⟨cur, h1, h2⟩ := h.at_
  simp [World.cell?, h1, h2 k v hk]
theorem RT.unfrozen (h : RT W gb vs w) (k : Nat) : w.frozen? ⟨gb, k, none⟩ = false := by
  obtain ⟨cur, h1, _⟩ := h.at_
  simp [World.frozen?, h1]
theorem RT.set (h : RT W gb vs w) {k : Nat} (hk : k < vs.length) (v : Value) : RT W gb (vs.set k v) (w.setCell ⟨gb, k, none⟩ v) := by
  have hl := h.lo
  have hs := fun {b : Nat} (hb : b ≠ gb) => heap_setCell_ne w ⟨gb, k, none⟩ v hb
  obtain ⟨cur, h1, h2⟩ := h.at_
  refine ⟨⟨by rw [size_setCell']; exact h.ext.size, fun b hb _ => (hs (by omega)).trans (h.ext.same b hb id), h.ext.tape, h.ext.os, h.ext.output⟩, h.lo, cur.set! k v, ?_, fun j y hj => ?_⟩
  · simp only [World.setCell, Array.getElem?_modify, if_true, h1, Option.map_some]
    rfl
  · have hkc : k < cur.size := (Array.getElem?_eq_some_iff.1 (h2 k _ (List.getElem?_eq_getElem hk))).1
    rw [List.getElem?_set] at hj
    by_cases e : k = j
    · subst e
      simp [hk] at hj
      subst hj
      simp [hkc]
    · rw [if_neg e] at hj
      have := h2 j y hj
      simp [Array.getElem?_setIfInBounds, e, this]
theorem rt_of {n : Nat} {u : Value} (hF : Ext Vn W w) (h : w.ownsRow W.heap.size 50 1 u n vs) (hn : 0 < n) : ∃ gb cap, u = .slice (some ⟨gb, 0, none⟩) n cap ∧ n ≤ cap ∧ RT W gb vs w := by
  rcases h.2 with ⟨_, h0⟩ | ⟨g, cap, cur, rfl, hb, hg, hle, _, _, ht⟩
  · omega
  · refine ⟨g, cap, rfl, hle, hF, hb, cur, hg, fun k x hk => ?_⟩
    rw [← ht] at hk
    have h2 : k < n * 1 := by
      have := (List.getElem?_eq_some_iff.1 hk).1
      simp only [List.length_take] at this
      omega
    rw [List.getElem?_take_of_lt h2] at hk
    simpa using hk
theorem RT.vrow (h : RT W gb vs w) : VRow w (some ⟨gb, 0, none⟩) vs := .inr ⟨gb, 0, rfl, fun k v hk => by rw [Nat.zero_add]; exact h.cell hk⟩
end
theorem events_store_nilI (P : Program) (w : World) (es : Array Event) (a : Addr) (m : Mode) : (store a .nilIface m).events P w es = storedEv P w es a .nilIface m := events_store P w es a _ m rfl
theorem run_store_nilI (P : Program) (w : World) (a : Addr) (m : Mode) : (store a .nilIface m).run P w = stored P w a .nilIface m := run_store P w a _ m rfl
set_option maxRecDepth 100000 in
set_option maxHeartbeats 8000000 in
theorem c_f4 {Sh : Loc → Prop} {W : World} {main : Bool} (hS : ShOk Sh W) {sP s7 : Value} {au : Option Addr} {mi n uc : Nat} (hmi : mi < 256) :
    ∃ k, ∀ (Qx : Exit → Act → World → Prop) (T : Array Value) (w : World), T.size = 105 → T[0]? = some sP → T[1]? = some (.int .u8 mi) → T[7]? = some s7 → T[8]? = some (.slice au n uc) → Ext Vn W w →
      (lf cdF4).wpC Try.prog main (Ext Vn) (HDq (Cx0 Sh)) 6 k (Exit.then (fun a' w' => ∃ T, a' = ⟨T, []⟩ ∧ T.size = 105 ∧ T[0]? = some sP ∧ T[1]? = some (.int .u8 mi) ∧ T[7]? = some s7 ∧ T[8]? = some (.slice au n uc) ∧ T[9]? = some (.bool (decide (mi < n))) ∧ Ext Vn W w') Qx) ⟨T, []⟩ w := by
  obtain ⟨it, hit, hz1, hz2, hz3⟩ := taskInfo
  have rl0 : ∀ {w w' : World}, Ext Vn W w → Ext Vn w w' → Ext Vn W w' := fun h r => h.trans r
  co_apply Exists.intro
  intro Qx T w hT h0 h1 h7 h8 hF
  rw [arrG105 T hT]
  simp only [gv_of h0, gv_of h1, gv_of h7, gv_of h8]
  simp only [cdF10, cdF9, cdF8, cdF7, cdF6, cdF5, cdF4, cdF3, cdF2, cdF1, bodyF, rt, lf, Try.f6, Option.getD_some]
  have hcv : IntKind.i64.wrap (mi : Int) = mi := by rw [IntKind.wrap_i64]; omega
  co_reg (TT Sh)
  co_op rl0 hF (co_quiet (TT Sh))
  co_op rl0 hF (co_quiet (TT Sh))
  try simp only [hcv]
  co_op rl0 hF (co_quiet (TT Sh))
  co_op rl0 hF (co_quiet (TT Sh))
  co_op rl0 hF (co_quiet (TT Sh))
  co_op rl0 hF (co_quiet (TT Sh))
  co_apply opsC_nil (TT Sh)
  co_then
  refine ⟨_, rfl, rfl, rfl, rfl, rfl, rfl, ?_, hF⟩
  simp
set_option maxRecDepth 100000 in
set_option maxHeartbeats 8000000 in
theorem c_f5n {Sh : Loc → Prop} {W : World} {main : Bool} (hS : ShOk Sh W) {sP s7 s8 : Value} :
    ∃ k, ∀ (Qx : Exit → Act → World → Prop) (T : Array Value) (w : World), T.size = 105 → T[0]? = some sP → T[7]? = some s7 → T[8]? = some s8 → T[9]? = some (.bool false) → Ext Vn W w →
      (lf cdF5).wpC Try.prog main (Ext Vn) (HDq (Cx0 Sh)) 6 k (Exit.then (fun a' w' => ∃ T, a' = ⟨T, []⟩ ∧ T.size = 105 ∧ T[0]? = some sP ∧ T[7]? = some s7 ∧ T[8]? = some s8 ∧ T[9]? = some (.bool false) ∧ Ext Vn W w') Qx) ⟨T, []⟩ w := by
  obtain ⟨it, hit, hz1, hz2, hz3⟩ := taskInfo
  have rl0 : ∀ {w w' : World}, Ext Vn W w → Ext Vn w w' → Ext Vn W w' := fun h r => h.trans r
  co_apply Exists.intro
  intro Qx T w hT h0 h7 h8 h9 hF
  rw [arrG105 T hT]
  simp only [gv_of h0, gv_of h7, gv_of h8, gv_of h9]
  simp only [cdF10, cdF9, cdF8, cdF7, cdF6, cdF5, cdF4, cdF3, cdF2, cdF1, bodyF, rt, lf, Try.f6, Option.getD_some]
  co_apply wpC_seq (TT Sh)
  co_reg (TT Sh)
  co_op rl0 hF (co_quiet (TT Sh))
  co_apply opsC_nil (TT Sh)
  co_then
  co_apply wpC_cond (TT Sh) (t := false)
  · simp [Act.eval]
  simp only [if_false, reduceIte, Bool.false_eq_true]
  co_apply wpC_skip (TT Sh)
  co_then
  exact ⟨_, rfl, rfl, rfl, rfl, rfl, rfl, hF⟩
set_option maxRecDepth 100000 in
set_option maxHeartbeats 8000000 in
theorem c_f5h {Sh : Loc → Prop} {W : World} {main : Bool} (hS : ShOk Sh W) {sP s7 : Value} {gb mi n cap : Nat} {vs : List Value} (hmn : mi < n) (hcap : n ≤ cap) (hvs : vs.length = n) :
    ∃ k, ∀ (Qx : Exit → Act → World → Prop) (T : Array Value) (w : World), T.size = 105 → T[0]? = some sP → T[1]? = some (.int .u8 mi) → T[7]? = some s7 → T[8]? = some (.slice (some ⟨gb, 0, none⟩) n cap) → T[9]? = some (.bool true) → RT W gb vs w →
      (lf cdF5).wpC Try.prog main (Ext Vn) (HDq (Cx0 Sh)) 6 k (Exit.then (fun a' w' => ∃ T, a' = ⟨T, []⟩ ∧ T.size = 105 ∧ T[0]? = some sP ∧ T[7]? = some s7 ∧ T[8]? = some (.slice (some ⟨gb, 0, none⟩) n cap) ∧ T[9]? = some (.bool true) ∧ RT W gb (vs.set mi .nilIface) w') Qx) ⟨T, []⟩ w := by
  obtain ⟨it, hit, hz1, hz2, hz3⟩ := taskInfo
  have rl0 : ∀ {w w' : World}, Ext Vn W w → Ext Vn w w' → Ext Vn W w' := fun h r => h.trans r
  co_apply Exists.intro
  intro Qx T w hT h0 h1 h7 h8 h9 hF
  obtain ⟨v, hv⟩ : ∃ v, vs[mi]? = some v := ⟨_, List.getElem?_eq_getElem (by omega)⟩
  rw [arrG105 T hT]
  simp only [gv_of h0, gv_of h1, gv_of h7, gv_of h8, gv_of h9]
  simp only [cdF10, cdF9, cdF8, cdF7, cdF6, cdF5, cdF4, cdF3, cdF2, cdF1, bodyF, rt, lf, Try.f6, Option.getD_some]
  co_apply wpC_seq (TT Sh)
  co_reg (TT Sh)
  co_op RT.rl hF (co_quiet (TT Sh))
  co_apply opsC_nil (TT Sh)
  co_then
  co_apply wpC_cond (TT Sh) (t := true)
  · simp [Act.eval]
  simp only [if_true, reduceIte]
  co_reg (TT Sh)
  co_op RT.rl hF (co_quiet (TT Sh))
  co_op RT.rl hF (co_quiet (TT Sh))
  co_opw RT.rl hF (skip) (co_still (TT Sh))
  co_opw RT.rl hF (have hc := hF.cell hv; have hz := hF.unfrozen mi; have hrs := run_store_nilI) (refine wr_own hS hF.lo (block_of_cell hc) (fun e he => ?_); have hm := mem_listed he; simp [go_sem, storedEv, events_store_nilI, *] at hm; exact hm)
  clear hc hz hrs
  replace hF := hF.set (k := mi) (by omega) .nilIface
  co_apply opsC_nil (TT Sh)
  co_then
  exact ⟨_, rfl, rfl, rfl, rfl, rfl, rfl, hF⟩
set_option maxRecDepth 100000 in
set_option maxHeartbeats 8000000 in
theorem c_f6 {Sh : Loc → Prop} {W : World} {main : Bool} (hS : ShOk Sh W) {sP s7 s8 s9 : Value} :
    ∃ k, ∀ (Qx : Exit → Act → World → Prop) (T : Array Value) (w : World), T.size = 105 → T[0]? = some sP → T[7]? = some s7 → T[8]? = some s8 → T[9]? = some s9 → Ext Vn W w →
      (lf cdF6).wpC Try.prog main (Ext Vn) (HDq (Cx0 Sh)) 6 k (Exit.then (fun a' w' => ∃ T, a' = ⟨T, []⟩ ∧ T.size = 105 ∧ T[0]? = some sP ∧ T[7]? = some s7 ∧ T[8]? = some s8 ∧ T[9]? = some s9 ∧ T[10]? = some (.int .i64 0) ∧ Ext Vn W w') Qx) ⟨T, []⟩ w := by
  obtain ⟨it, hit, hz1, hz2, hz3⟩ := taskInfo
  have rl0 : ∀ {w w' : World}, Ext Vn W w → Ext Vn w w' → Ext Vn W w' := fun h r => h.trans r
  co_apply Exists.intro
  intro Qx T w hT h0 h7 h8 h9 hF
  rw [arrG105 T hT]
  simp only [gv_of h0, gv_of h7, gv_of h8, gv_of h9]
  simp only [cdF10, cdF9, cdF8, cdF7, cdF6, cdF5, cdF4, cdF3, cdF2, cdF1, bodyF, rt, lf, Try.f6, Option.getD_some]
  co_reg (TT Sh)
  co_op rl0 hF (co_quiet (TT Sh))
  co_apply opsC_nil (TT Sh)
  co_then
  exact ⟨_, rfl, rfl, rfl, rfl, rfl, rfl, rfl, hF⟩
set_option maxRecDepth 100000 in
set_option maxHeartbeats 8000000 in
theorem c_f7a {Sh : Loc → Prop} {W : World} {main : Bool} (hS : ShOk Sh W) {s7 : Value} {ap au : Option Addr} {n np pc uc : Nat} {b9 : Bool} (hn : 64 < n) :
    ∃ k, ∀ (Qx : Exit → Act → World → Prop) (T : Array Value) (w : World), T.size = 105 → T[0]? = some (.slice ap np pc) → T[7]? = some s7 → T[8]? = some (.slice au n uc) → T[9]? = some (.bool b9) → T[10]? = some (.int .i64 0) → Ext Vn W w →
      (lf cdF7).wpC Try.prog main (Ext Vn) (HDq (Cx0 Sh)) 6 k (Exit.then (fun a' w' => ∃ T, a' = ⟨T, []⟩ ∧ T.size = 105 ∧ T[0]? = some (.slice ap np pc) ∧ T[7]? = some s7 ∧ T[8]? = some (.slice au n uc) ∧ T[10]? = some (.int .i64 12) ∧ Ext Vn W w') Qx) ⟨T, []⟩ w := by
  obtain ⟨it, hit, hz1, hz2, hz3⟩ := taskInfo
  have rl0 : ∀ {w w' : World}, Ext Vn W w → Ext Vn w w' → Ext Vn W w' := fun h r => h.trans r
  co_apply Exists.intro
  intro Qx T w hT h0 h7 h8 h9 h10 hF
  rw [arrG105 T hT]
  simp only [gv_of h0, gv_of h7, gv_of h8, gv_of h9, gv_of h10]
  simp only [cdF10, cdF9, cdF8, cdF7, cdF6, cdF5, cdF4, cdF3, cdF2, cdF1, bodyF, rt, lf, Try.f6, Option.getD_some]
  have h64 : decide ((64 : Int) < (n : Int)) = true := decide_eq_true (by omega)
  have h64' : decide (64 < n) = true := decide_eq_true (by omega)
  co_apply wpC_block (TT Sh)
  co_apply wpC_seq (TT Sh)
  co_reg (TT Sh)
  co_op rl0 hF (co_quiet (TT Sh))
  co_op rl0 hF (co_quiet (TT Sh))
  co_op rl0 hF (co_quiet (TT Sh))
  try simp only [h64, h64']
  co_op rl0 hF (co_quiet (TT Sh))
  co_apply opsC_unwanted (TT Sh) rfl (by rfl)
  try walk_nrm
  co_apply opsC_unwanted (TT Sh) rfl (by rfl)
  try walk_nrm
  co_apply opsC_unwanted (TT Sh) rfl (by rfl)
  try walk_nrm
  co_op rl0 hF (co_quiet (TT Sh))
  co_op rl0 hF (co_quiet (TT Sh))
  co_apply opsC_nil (TT Sh)
  co_then
  co_apply wpC_cond (TT Sh) (t := true)
  · simp [Act.eval]
  simp only [if_true, reduceIte]
  co_reg (TT Sh)
  co_op rl0 hF (co_quiet (TT Sh))
  co_apply opsC_nil (TT Sh)
  co_then
  exact ⟨_, rfl, rfl, rfl, rfl, rfl, rfl, hF⟩
set_option maxRecDepth 100000 in
set_option maxHeartbeats 8000000 in
theorem c_f7b {Sh : Loc → Prop} {W : World} {main : Bool} (hS : ShOk Sh W) {s7 : Value} {ap au : Option Addr} {n np pc uc : Nat} {b9 : Bool} (hn : n ≤ 64) (hp : 4096 < np) :
    ∃ k, ∀ (Qx : Exit → Act → World → Prop) (T : Array Value) (w : World), T.size = 105 → T[0]? = some (.slice ap np pc) → T[7]? = some s7 → T[8]? = some (.slice au n uc) → T[9]? = some (.bool b9) → T[10]? = some (.int .i64 0) → Ext Vn W w →
      (lf cdF7).wpC Try.prog main (Ext Vn) (HDq (Cx0 Sh)) 6 k (Exit.then (fun a' w' => ∃ T, a' = ⟨T, []⟩ ∧ T.size = 105 ∧ T[0]? = some (.slice ap np pc) ∧ T[7]? = some s7 ∧ T[8]? = some (.slice au n uc) ∧ T[10]? = some (.int .i64 12) ∧ Ext Vn W w') Qx) ⟨T, []⟩ w := by
  obtain ⟨it, hit, hz1, hz2, hz3⟩ := taskInfo
  have rl0 : ∀ {w w' : World}, Ext Vn W w → Ext Vn w w' → Ext Vn W w' := fun h r => h.trans r
  co_apply Exists.intro
  intro Qx T w hT h0 h7 h8 h9 h10 hF
  rw [arrG105 T hT]
  simp only [gv_of h0, gv_of h7, gv_of h8, gv_of h9, gv_of h10]
  simp only [cdF10, cdF9, cdF8, cdF7, cdF6, cdF5, cdF4, cdF3, cdF2, cdF1, bodyF, rt, lf, Try.f6, Option.getD_some]
  have h64 : decide ((64 : Int) < (n : Int)) = false := decide_eq_false (by omega)
  have h64' : decide (64 < n) = false := decide_eq_false (by omega)
  have h40 : decide ((4096 : Int) < (np : Int)) = true := decide_eq_true (by omega)
  have h40' : decide (4096 < np) = true := decide_eq_true (by omega)
  co_apply wpC_block (TT Sh)
  co_apply wpC_seq (TT Sh)
  co_reg (TT Sh)
  co_op rl0 hF (co_quiet (TT Sh))
  co_op rl0 hF (co_quiet (TT Sh))
  co_op rl0 hF (co_quiet (TT Sh))
  try simp only [h64, h64']
  co_op rl0 hF (co_quiet (TT Sh))
  co_op rl0 hF (co_quiet (TT Sh))
  co_op rl0 hF (co_quiet (TT Sh))
  co_op rl0 hF (co_quiet (TT Sh))
  try simp only [h40, h40']
  co_op rl0 hF (co_quiet (TT Sh))
  co_op rl0 hF (co_quiet (TT Sh))
  co_apply opsC_nil (TT Sh)
  co_then
  co_apply wpC_cond (TT Sh) (t := true)
  · simp [Act.eval]
  simp only [if_true, reduceIte]
  co_reg (TT Sh)
  co_op rl0 hF (co_quiet (TT Sh))
  co_apply opsC_nil (TT Sh)
  co_then
  exact ⟨_, rfl, rfl, rfl, rfl, rfl, rfl, hF⟩
set_option maxRecDepth 100000 in
set_option maxHeartbeats 8000000 in
theorem c_f7c {Sh : Loc → Prop} {W : World} {main : Bool} (hS : ShOk Sh W) {s7 : Value} {ap au : Option Addr} {n np pc uc : Nat} {b9 : Bool} (hn : n ≤ 64) (hp : np ≤ 4096) :
    ∃ k, ∀ (Qx : Exit → Act → World → Prop) (T : Array Value) (w : World), T.size = 105 → T[0]? = some (.slice ap np pc) → T[7]? = some s7 → T[8]? = some (.slice au n uc) → T[9]? = some (.bool true) → T[10]? = some (.int .i64 0) → Ext Vn W w →
      (lf cdF7).wpC Try.prog main (Ext Vn) (HDq (Cx0 Sh)) 6 k (Exit.then (fun a' w' => ∃ T, a' = ⟨T, []⟩ ∧ T.size = 105 ∧ T[0]? = some (.slice ap np pc) ∧ T[7]? = some s7 ∧ T[8]? = some (.slice au n uc) ∧ T[10]? = some (.int .i64 1) ∧ Ext Vn W w') Qx) ⟨T, []⟩ w := by
  obtain ⟨it, hit, hz1, hz2, hz3⟩ := taskInfo
  have rl0 : ∀ {w w' : World}, Ext Vn W w → Ext Vn w w' → Ext Vn W w' := fun h r => h.trans r
  co_apply Exists.intro
  intro Qx T w hT h0 h7 h8 h9 h10 hF
  rw [arrG105 T hT]
  simp only [gv_of h0, gv_of h7, gv_of h8, gv_of h9, gv_of h10]
  simp only [cdF10, cdF9, cdF8, cdF7, cdF6, cdF5, cdF4, cdF3, cdF2, cdF1, bodyF, rt, lf, Try.f6, Option.getD_some]
  have h64 : decide ((64 : Int) < (n : Int)) = false := decide_eq_false (by omega)
  have h64' : decide (64 < n) = false := decide_eq_false (by omega)
  have h40 : decide ((4096 : Int) < (np : Int)) = false := decide_eq_false (by omega)
  have h40' : decide (4096 < np) = false := decide_eq_false (by omega)
  co_apply wpC_block (TT Sh)
  co_apply wpC_seq (TT Sh)
  co_reg (TT Sh)
  co_op rl0 hF (co_quiet (TT Sh))
  co_op rl0 hF (co_quiet (TT Sh))
  co_op rl0 hF (co_quiet (TT Sh))
  try simp only [h64, h64']
  co_op rl0 hF (co_quiet (TT Sh))
  co_op rl0 hF (co_quiet (TT Sh))
  co_op rl0 hF (co_quiet (TT Sh))
  co_op rl0 hF (co_quiet (TT Sh))
  try simp only [h40, h40']
  co_op rl0 hF (co_quiet (TT Sh))
  co_op rl0 hF (co_quiet (TT Sh))
  co_apply opsC_nil (TT Sh)
  co_then
  co_apply wpC_cond (TT Sh) (t := false)
  · simp [Act.eval]
  simp only [if_false, reduceIte, Bool.false_eq_true]
  co_apply wpC_seq (TT Sh)
  co_reg (TT Sh)
  co_op rl0 hF (co_quiet (TT Sh))
  co_op rl0 hF (co_quiet (TT Sh))
  co_apply opsC_nil (TT Sh)
  co_then
  co_apply wpC_cond (TT Sh) (t := true)
  · simp [Act.eval]
  simp only [if_true, reduceIte]
  co_reg (TT Sh)
  co_op rl0 hF (co_quiet (TT Sh))
  co_apply opsC_nil (TT Sh)
  co_then
  exact ⟨_, rfl, rfl, rfl, rfl, rfl, rfl, hF⟩
set_option maxRecDepth 100000 in
set_option maxHeartbeats 8000000 in
theorem c_f7d {Sh : Loc → Prop} {W : World} {main : Bool} (hS : ShOk Sh W) {s7 : Value} {ap au : Option Addr} {n np pc uc : Nat} {b9 : Bool} (hn : n ≤ 64) (hp : np ≤ 4096) :
    ∃ k, ∀ (Qx : Exit → Act → World → Prop) (T : Array Value) (w : World), T.size = 105 → T[0]? = some (.slice ap np pc) → T[7]? = some s7 → T[8]? = some (.slice au n uc) → T[9]? = some (.bool false) → T[10]? = some (.int .i64 0) → Ext Vn W w →
      (lf cdF7).wpC Try.prog main (Ext Vn) (HDq (Cx0 Sh)) 6 k (Exit.then (fun a' w' => ∃ T, a' = ⟨T, []⟩ ∧ T.size = 105 ∧ T[0]? = some (.slice ap np pc) ∧ T[7]? = some s7 ∧ T[8]? = some (.slice au n uc) ∧ T[10]? = some (.int .i64 0) ∧ Ext Vn W w') Qx) ⟨T, []⟩ w := by
  obtain ⟨it, hit, hz1, hz2, hz3⟩ := taskInfo
  have rl0 : ∀ {w w' : World}, Ext Vn W w → Ext Vn w w' → Ext Vn W w' := fun h r => h.trans r
  co_apply Exists.intro
  intro Qx T w hT h0 h7 h8 h9 h10 hF
  rw [arrG105 T hT]
  simp only [gv_of h0, gv_of h7, gv_of h8, gv_of h9, gv_of h10]
  simp only [cdF10, cdF9, cdF8, cdF7, cdF6, cdF5, cdF4, cdF3, cdF2, cdF1, bodyF, rt, lf, Try.f6, Option.getD_some]
  have h64 : decide ((64 : Int) < (n : Int)) = false := decide_eq_false (by omega)
  have h64' : decide (64 < n) = false := decide_eq_false (by omega)
  have h40 : decide ((4096 : Int) < (np : Int)) = false := decide_eq_false (by omega)
  have h40' : decide (4096 < np) = false := decide_eq_false (by omega)
  co_apply wpC_block (TT Sh)
  co_apply wpC_seq (TT Sh)
  co_reg (TT Sh)
  co_op rl0 hF (co_quiet (TT Sh))
  co_op rl0 hF (co_quiet (TT Sh))
  co_op rl0 hF (co_quiet (TT Sh))
  try simp only [h64, h64']
  co_op rl0 hF (co_quiet (TT Sh))
  co_op rl0 hF (co_quiet (TT Sh))
  co_op rl0 hF (co_quiet (TT Sh))
  co_op rl0 hF (co_quiet (TT Sh))
  try simp only [h40, h40']
  co_op rl0 hF (co_quiet (TT Sh))
  co_op rl0 hF (co_quiet (TT Sh))
  co_apply opsC_nil (TT Sh)
  co_then
  co_apply wpC_cond (TT Sh) (t := false)
  · simp [Act.eval]
  simp only [if_false, reduceIte, Bool.false_eq_true]
  co_apply wpC_seq (TT Sh)
  co_reg (TT Sh)
  co_op rl0 hF (co_quiet (TT Sh))
  co_op rl0 hF (co_quiet (TT Sh))
  co_apply opsC_nil (TT Sh)
  co_then
  co_apply wpC_cond (TT Sh) (t := false)
  · simp [Act.eval]
  simp only [if_false, reduceIte, Bool.false_eq_true]
  co_apply wpC_skip (TT Sh)
  co_then
  exact ⟨_, rfl, rfl, rfl, rfl, rfl, rfl, hF⟩
end
end Go.Proofs.Ytggfcdhkgldbfaa
