/-
  PARTS of a claim, merged by segs.py: CwRf4.
-/
import Derived.Test.YtggfcdhkgldbfaaD36
import Derived.Test.YtggfcdhkgldbfaaD44
namespace Go.Proofs.Ytggfcdhkgldbfaa
set_option linter.unusedSimpArgs false
set_option linter.unusedVariables false

/-! ### CwRf4 -/
section
set_option linter.unusedSimpArgs false
open Go Go.Conc Go.RowKit Go.ConcR.Gen Cw

noncomputable def condF : Code := rt (lf (rt bodyF))
noncomputable def opsFa : Array Oper := opsOf (lf (lf (rt bodyF)))
noncomputable def opsFb : Array Oper := opsOf (lf (yesC condF))
noncomputable def opsFc : Array Oper := opsOf (lf cdF9)
noncomputable def opsFd : Array Oper := opsOf (lf cdF10)
theorem cdF1_eq : cdF1 = .seq (lf cdF1) cdF2 := by simp only [cdF10, cdF9, cdF8, cdF7, cdF6, cdF5, cdF4, cdF3, cdF2, cdF1, bodyF, rt, lf, Try.f6, Option.getD_some]
theorem cdF2_eq : cdF2 = .seq (lf cdF2) cdF3 := by simp only [cdF10, cdF9, cdF8, cdF7, cdF6, cdF5, cdF4, cdF3, cdF2, cdF1, bodyF, rt, lf, Try.f6, Option.getD_some]
theorem cdF3_eq : cdF3 = .seq (lf cdF3) cdF4 := by simp only [cdF10, cdF9, cdF8, cdF7, cdF6, cdF5, cdF4, cdF3, cdF2, cdF1, bodyF, rt, lf, Try.f6, Option.getD_some]
theorem cdF4_eq : cdF4 = .seq (lf cdF4) cdF5 := by simp only [cdF10, cdF9, cdF8, cdF7, cdF6, cdF5, cdF4, cdF3, cdF2, cdF1, bodyF, rt, lf, Try.f6, Option.getD_some]
theorem cdF5_eq : cdF5 = .seq (lf cdF5) cdF6 := by simp only [cdF10, cdF9, cdF8, cdF7, cdF6, cdF5, cdF4, cdF3, cdF2, cdF1, bodyF, rt, lf, Try.f6, Option.getD_some]
theorem cdF6_eq : cdF6 = .seq (lf cdF6) cdF7 := by simp only [cdF10, cdF9, cdF8, cdF7, cdF6, cdF5, cdF4, cdF3, cdF2, cdF1, bodyF, rt, lf, Try.f6, Option.getD_some]
theorem cdF7_eq : cdF7 = .seq (lf cdF7) cdF8 := by simp only [cdF10, cdF9, cdF8, cdF7, cdF6, cdF5, cdF4, cdF3, cdF2, cdF1, bodyF, rt, lf, Try.f6, Option.getD_some]
theorem cdF8_eq : cdF8 = .seq (lf cdF8) cdF9 := by simp only [cdF10, cdF9, cdF8, cdF7, cdF6, cdF5, cdF4, cdF3, cdF2, cdF1, bodyF, rt, lf, Try.f6, Option.getD_some]
theorem cdF9_eq : cdF9 = .seq (lf cdF9) cdF10 := by simp only [cdF10, cdF9, cdF8, cdF7, cdF6, cdF5, cdF4, cdF3, cdF2, cdF1, bodyF, rt, lf, Try.f6, Option.getD_some]
section
variable {Sh : Loc → Prop} {mn : Bool} {Q : World → Prop} (hrl : ∀ w w', Q w → Ext Vn w w' → Q w')
include hrl
set_option maxRecDepth 100000 in
set_option maxHeartbeats 4000000 in
theorem f_no {ap : Option Addr} {np pc mi xe : Nat} (hl : 5000 < np) (w : World) (hF : Q w) :
    Goes Try.prog mn (Ext Vn) (HDq (Cx0 Sh)) (fun g w => ∃ T', T'.size = 105 ∧ g = G (fAw und22 [.code body9]) (fRf T' (.inRegion opsFb (0 :: [1]) :: .code .ret :: .code cdF1 :: []) :: []) ∧ Q w) (30)
      (G (fRf #[.slice ap np pc, .int .u8 mi, .int .u8 xe, undef, undef, undef, undef, undef, undef, undef, undef, undef, undef, undef, undef, undef, undef, undef, undef, undef, undef, undef, undef, undef, undef, undef, undef, undef, undef, undef, undef, undef, undef, undef, undef, undef, undef, undef, undef, undef, undef, undef, undef, undef, undef, undef, undef, undef, undef, undef, undef, undef, undef, undef, undef, undef, undef, undef, undef, undef, undef, undef, undef, undef, undef, undef, undef, undef, undef, undef, undef, undef, undef, undef, undef, undef, undef, undef, undef, undef, undef, undef, undef, undef, undef, undef, undef, undef, undef, undef, undef, undef, undef, undef, undef, undef, undef, undef, undef, undef, undef, undef, undef, undef, undef] ([.code bodyF])) []) w := by
  have h50 : decide ((5000 : Int) < (np : Int)) = true := decide_eq_true (by omega)
  have h50' : decide (5000 < np) = true := decide_eq_true (by omega)
  simp only [fRf, condF, opsFa, opsFb, opsFc, opsFd, cdF10, cdF9, cdF8, cdF7, cdF6, cdF5, cdF4, cdF3, cdF2, cdF1, bodyF, opsOf, rt, lf, yesC, Try.f6, Option.getD_some]
  refine Goes.step rfl (fun w hr => ?_)
  replace hF := (hrl _ _) hF hr
  clear hr
  rw [stepG_seq]
  simp only [goes_go]
  refine ⟨hdq_idle _ _, ?_⟩
  refine Goes.step rfl (fun w hr => ?_)
  replace hF := (hrl _ _) hF hr
  clear hr
  rw [stepG_region]
  simp only [goes_go, List.size_toArray, List.length_cons, List.length_nil, Nat.reduceAdd, Nat.zero_add, List.range, List.range.loop]
  refine ⟨hdq_idle _ _, ?_⟩
  refine Goes.step rfl (fun w hr => ?_)
  replace hF := (hrl _ _) hF hr
  clear hr
  refine goes_oper_k rfl rfl (by k_ne) (fun K hK => ?_)
  go_simp
  refine hK _ _ ⟨?_, ?_⟩
  · rw [listed_nil (by simp [go_sem])]; exact hdq_idle _ _
  clear hK K
  try walk_nrm
  refine Goes.step rfl (fun w hr => ?_)
  replace hF := (hrl _ _) hF hr
  clear hr
  rw [stepG_region_end]
  simp only [goes_go]
  refine ⟨hdq_idle _ _, ?_⟩
  refine Goes.step rfl (fun w hr => ?_)
  replace hF := (hrl _ _) hF hr
  clear hr
  rw [stepG_seq]
  simp only [goes_go]
  refine ⟨hdq_idle _ _, ?_⟩
  refine Goes.step rfl (fun w hr => ?_)
  replace hF := (hrl _ _) hF hr
  clear hr
  rw [stepG_seq]
  simp only [goes_go]
  refine ⟨hdq_idle _ _, ?_⟩
  refine Goes.step rfl (fun w hr => ?_)
  replace hF := (hrl _ _) hF hr
  clear hr
  rw [stepG_region]
  simp only [goes_go, List.size_toArray, List.length_cons, List.length_nil, Nat.reduceAdd, Nat.zero_add, List.range, List.range.loop]
  refine ⟨hdq_idle _ _, ?_⟩
  refine Goes.step rfl (fun w hr => ?_)
  replace hF := (hrl _ _) hF hr
  clear hr
  refine goes_oper_k rfl rfl (by k_ne) (fun K hK => ?_)
  go_simp
  refine hK _ _ ⟨?_, ?_⟩
  · rw [listed_nil (by simp [go_sem])]; exact hdq_idle _ _
  clear hK K
  try walk_nrm
  refine Goes.step rfl (fun w hr => ?_)
  replace hF := (hrl _ _) hF hr
  clear hr
  refine goes_oper_k rfl rfl (by k_ne) (fun K hK => ?_)
  go_simp
  refine hK _ _ ⟨?_, ?_⟩
  · rw [listed_nil (by simp [go_sem])]; exact hdq_idle _ _
  clear hK K
  try walk_nrm
  refine Goes.step rfl (fun w hr => ?_)
  replace hF := (hrl _ _) hF hr
  clear hr
  refine goes_oper_k rfl rfl (by k_ne) (fun K hK => ?_)
  go_simp
  refine hK _ _ ⟨?_, ?_⟩
  · rw [listed_nil (by simp [go_sem])]; exact hdq_idle _ _
  clear hK K
  try walk_nrm
  try simp only [h50, h50']
  refine Goes.step rfl (fun w hr => ?_)
  replace hF := (hrl _ _) hF hr
  clear hr
  rw [stepG_region_end]
  simp only [goes_go]
  refine ⟨hdq_idle _ _, ?_⟩
  refine Goes.step rfl (fun w hr => ?_)
  replace hF := (hrl _ _) hF hr
  clear hr
  rw [stepG_cond (t := true) (by first | rfl | (simp [Act.eval]; omega))]
  simp only [goes_go, if_true, if_false, Bool.false_eq_true, ↓reduceIte]
  refine ⟨hdq_idle _ _, ?_⟩
  refine Goes.step rfl (fun w hr => ?_)
  replace hF := (hrl _ _) hF hr
  clear hr
  rw [stepG_seq]
  simp only [goes_go]
  refine ⟨hdq_idle _ _, ?_⟩
  refine Goes.step rfl (fun w hr => ?_)
  replace hF := (hrl _ _) hF hr
  clear hr
  rw [stepG_region]
  simp only [goes_go, List.size_toArray, List.length_cons, List.length_nil, Nat.reduceAdd, Nat.zero_add, List.range, List.range.loop]
  refine ⟨hdq_idle _ _, ?_⟩
  refine Goes.step rfl (fun w hr => ?_)
  replace hF := (hrl _ _) hF hr
  clear hr
  refine goes_call rfl rfl (by k_ne) rfl Try.func9 rfl rfl ⟨hdq_idle _ _, ?_⟩
  refine Goes.stop (fun w hr => ⟨#[.slice ap np pc, .int .u8 mi, .int .u8 xe, undef, undef, undef, .bool false, undef, undef, undef, undef, undef, undef, undef, undef, .slice ap np pc, .int .i64 np, .bool true, undef, undef, undef, undef, undef, undef, undef, undef, undef, undef, undef, undef, undef, undef, undef, undef, undef, undef, undef, undef, undef, undef, undef, undef, undef, undef, undef, undef, undef, undef, undef, undef, undef, undef, undef, undef, undef, undef, undef, undef, undef, undef, undef, undef, undef, undef, undef, undef, undef, undef, undef, undef, undef, undef, undef, undef, undef, undef, undef, undef, undef, undef, undef, undef, undef, undef, undef, undef, undef, undef, undef, undef, undef, undef, undef, undef, undef, undef, undef, undef, undef, undef, undef, undef, undef, undef, undef], ?_, ?_, hrl _ _ hF hr⟩)
  · rfl
  · simp only [fAw, und22, body9, Try.ntmps9, List.map_toArray, List.map_cons, List.map_nil, Act.eval, List.size_toArray, List.length_cons, List.length_nil, Nat.reduceAdd, Nat.reduceSub, Nat.sub_zero, Array.replicate_succ, Array.replicate_zero, List.push_toArray, List.append_toArray, List.nil_append, List.cons_append]
    rfl
set_option maxRecDepth 100000 in
set_option maxHeartbeats 4000000 in
theorem f_out0 (w : World) (hF : Q w) (T : Array Value) (hT : T.size = 105) :
    Goes Try.prog mn (Ext Vn) (HDq (Cx0 Sh)) (fun g w => ∃ T' k, T'[6]? = some (.bool true) ∧ g = G { fRf T' k with mode := .returning } [] ∧ Q w) (10)
      (G ((base 6).at (Act.put ⟨T, []⟩ ((opsFb[0]?).bind (·.dst)) (.bool true)) (.inRegion opsFb [1] :: .code .ret :: .code cdF1 :: [])) []) w := by
  rw [arrG105 T hT]
  simp only [fRf, condF, opsFa, opsFb, opsFc, opsFd, cdF10, cdF9, cdF8, cdF7, cdF6, cdF5, cdF4, cdF3, cdF2, cdF1, bodyF, opsOf, rt, lf, yesC, Try.f6, Option.getD_some]
  walk_nrm
  refine Goes.step rfl (fun w hr => ?_)
  replace hF := (hrl _ _) hF hr
  clear hr
  refine goes_oper_k rfl rfl (by k_ne) (fun K hK => ?_)
  go_simp
  refine hK _ _ ⟨?_, ?_⟩
  · rw [listed_nil (by simp [go_sem])]; exact hdq_idle _ _
  clear hK K
  try walk_nrm
  refine Goes.step rfl (fun w hr => ?_)
  replace hF := (hrl _ _) hF hr
  clear hr
  rw [stepG_region_end]
  simp only [goes_go]
  refine ⟨hdq_idle _ _, ?_⟩
  refine Goes.step rfl (fun w hr => ?_)
  replace hF := (hrl _ _) hF hr
  clear hr
  rw [stepG_ret']
  simp only [goes_go]
  refine ⟨hdq_idle _ _, ?_⟩
  refine Goes.stop (fun w hr => ⟨_, _, ?_, rfl, hrl _ _ hF hr⟩)
  rfl
set_option maxRecDepth 100000 in
set_option maxHeartbeats 4000000 in
theorem f_yes {ap : Option Addr} {np pc mi xe : Nat} (hl : np ≤ 5000) (w : World) (hF : Q w) :
    Goes Try.prog mn (Ext Vn) (HDq (Cx0 Sh)) (fun g w => ∃ T', (T'.size = 105 ∧ T'[0]? = some (.slice ap np pc) ∧ T'[1]? = some (.int .u8 mi) ∧ T'[2]? = some (.int .u8 xe)) ∧ g = G (fRf T' (.code cdF1 :: [])) [] ∧ Q w) (30)
      (G (fRf #[.slice ap np pc, .int .u8 mi, .int .u8 xe, undef, undef, undef, undef, undef, undef, undef, undef, undef, undef, undef, undef, undef, undef, undef, undef, undef, undef, undef, undef, undef, undef, undef, undef, undef, undef, undef, undef, undef, undef, undef, undef, undef, undef, undef, undef, undef, undef, undef, undef, undef, undef, undef, undef, undef, undef, undef, undef, undef, undef, undef, undef, undef, undef, undef, undef, undef, undef, undef, undef, undef, undef, undef, undef, undef, undef, undef, undef, undef, undef, undef, undef, undef, undef, undef, undef, undef, undef, undef, undef, undef, undef, undef, undef, undef, undef, undef, undef, undef, undef, undef, undef, undef, undef, undef, undef, undef, undef, undef, undef, undef, undef] ([.code bodyF])) []) w := by
  have h50 : decide ((5000 : Int) < (np : Int)) = false := decide_eq_false (by omega)
  have h50' : decide (5000 < np) = false := decide_eq_false (by omega)
  simp only [fRf, condF, opsFa, opsFb, opsFc, opsFd, cdF10, cdF9, cdF8, cdF7, cdF6, cdF5, cdF4, cdF3, cdF2, cdF1, bodyF, opsOf, rt, lf, yesC, Try.f6, Option.getD_some]
  refine Goes.step rfl (fun w hr => ?_)
  replace hF := (hrl _ _) hF hr
  clear hr
  rw [stepG_seq]
  simp only [goes_go]
  refine ⟨hdq_idle _ _, ?_⟩
  refine Goes.step rfl (fun w hr => ?_)
  replace hF := (hrl _ _) hF hr
  clear hr
  rw [stepG_region]
  simp only [goes_go, List.size_toArray, List.length_cons, List.length_nil, Nat.reduceAdd, Nat.zero_add, List.range, List.range.loop]
  refine ⟨hdq_idle _ _, ?_⟩
  refine Goes.step rfl (fun w hr => ?_)
  replace hF := (hrl _ _) hF hr
  clear hr
  refine goes_oper_k rfl rfl (by k_ne) (fun K hK => ?_)
  go_simp
  refine hK _ _ ⟨?_, ?_⟩
  · rw [listed_nil (by simp [go_sem])]; exact hdq_idle _ _
  clear hK K
  try walk_nrm
  refine Goes.step rfl (fun w hr => ?_)
  replace hF := (hrl _ _) hF hr
  clear hr
  rw [stepG_region_end]
  simp only [goes_go]
  refine ⟨hdq_idle _ _, ?_⟩
  refine Goes.step rfl (fun w hr => ?_)
  replace hF := (hrl _ _) hF hr
  clear hr
  rw [stepG_seq]
  simp only [goes_go]
  refine ⟨hdq_idle _ _, ?_⟩
  refine Goes.step rfl (fun w hr => ?_)
  replace hF := (hrl _ _) hF hr
  clear hr
  rw [stepG_seq]
  simp only [goes_go]
  refine ⟨hdq_idle _ _, ?_⟩
  refine Goes.step rfl (fun w hr => ?_)
  replace hF := (hrl _ _) hF hr
  clear hr
  rw [stepG_region]
  simp only [goes_go, List.size_toArray, List.length_cons, List.length_nil, Nat.reduceAdd, Nat.zero_add, List.range, List.range.loop]
  refine ⟨hdq_idle _ _, ?_⟩
  refine Goes.step rfl (fun w hr => ?_)
  replace hF := (hrl _ _) hF hr
  clear hr
  refine goes_oper_k rfl rfl (by k_ne) (fun K hK => ?_)
  go_simp
  refine hK _ _ ⟨?_, ?_⟩
  · rw [listed_nil (by simp [go_sem])]; exact hdq_idle _ _
  clear hK K
  try walk_nrm
  refine Goes.step rfl (fun w hr => ?_)
  replace hF := (hrl _ _) hF hr
  clear hr
  refine goes_oper_k rfl rfl (by k_ne) (fun K hK => ?_)
  go_simp
  refine hK _ _ ⟨?_, ?_⟩
  · rw [listed_nil (by simp [go_sem])]; exact hdq_idle _ _
  clear hK K
  try walk_nrm
  refine Goes.step rfl (fun w hr => ?_)
  replace hF := (hrl _ _) hF hr
  clear hr
  refine goes_oper_k rfl rfl (by k_ne) (fun K hK => ?_)
  go_simp
  refine hK _ _ ⟨?_, ?_⟩
  · rw [listed_nil (by simp [go_sem])]; exact hdq_idle _ _
  clear hK K
  try walk_nrm
  try simp only [h50, h50']
  refine Goes.step rfl (fun w hr => ?_)
  replace hF := (hrl _ _) hF hr
  clear hr
  rw [stepG_region_end]
  simp only [goes_go]
  refine ⟨hdq_idle _ _, ?_⟩
  refine Goes.step rfl (fun w hr => ?_)
  replace hF := (hrl _ _) hF hr
  clear hr
  rw [stepG_cond (t := false) (by first | rfl | (simp [Act.eval]; omega))]
  simp only [goes_go, if_true, if_false, Bool.false_eq_true, ↓reduceIte]
  refine ⟨hdq_idle _ _, ?_⟩
  refine Goes.step rfl (fun w hr => ?_)
  replace hF := (hrl _ _) hF hr
  clear hr
  rw [stepG_skip]
  simp only [goes_go]
  refine ⟨hdq_idle _ _, ?_⟩
  refine Goes.stop (fun w hr => ⟨_, ⟨?_, ?_, ?_, ?_⟩, rfl, hrl _ _ hF hr⟩) <;> rfl
set_option maxRecDepth 100000 in
set_option maxHeartbeats 4000000 in
theorem f_in {ap au : Option Addr} {np pc n uc : Nat} {v7 v10 : Value} (w : World) (hF : Q w) (T : Array Value) (hT : T.size = 105) (h0 : T[0]? = some (.slice ap np pc)) (h7 : T[7]? = some v7) (h8 : T[8]? = some (.slice au n uc)) (h10 : T[10]? = some v10) :
    Goes Try.prog mn (Ext Vn) (HDq (Cx0 Sh)) (fun g w => ∃ T', (T'.size = 105 ∧ T'[7]? = some v7 ∧ T'[8]? = some (.slice au n uc) ∧ T'[10]? = some v10) ∧ g = G (fRun (entryT (.slice ap np pc) (.slice au n uc)) [.code bodyM]) (fRf T' (.inRegion opsFc (2 :: [3, 4, 5, 6, 7]) :: .code cdF10 :: []) :: []) ∧ Q w) (20)
      (G (fRf T (.code cdF9 :: [])) []) w := by
  rw [arrG105 T hT]
  simp only [gv_of h0, gv_of h7, gv_of h8, gv_of h10]
  simp only [fRf, condF, opsFa, opsFb, opsFc, opsFd, cdF10, cdF9, cdF8, cdF7, cdF6, cdF5, cdF4, cdF3, cdF2, cdF1, bodyF, opsOf, rt, lf, yesC, Try.f6, Option.getD_some]
  refine Goes.step rfl (fun w hr => ?_)
  replace hF := (hrl _ _) hF hr
  clear hr
  rw [stepG_seq]
  simp only [goes_go]
  refine ⟨hdq_idle _ _, ?_⟩
  refine Goes.step rfl (fun w hr => ?_)
  replace hF := (hrl _ _) hF hr
  clear hr
  rw [stepG_region]
  simp only [goes_go, List.size_toArray, List.length_cons, List.length_nil, Nat.reduceAdd, Nat.zero_add, List.range, List.range.loop]
  refine ⟨hdq_idle _ _, ?_⟩
  refine Goes.step rfl (fun w hr => ?_)
  replace hF := (hrl _ _) hF hr
  clear hr
  refine goes_oper_k rfl rfl (by k_ne) (fun K hK => ?_)
  go_simp
  refine hK _ _ ⟨?_, ?_⟩
  · rw [listed_nil (by simp [go_sem])]; exact hdq_idle _ _
  clear hK K
  try walk_nrm
  refine Goes.step rfl (fun w hr => ?_)
  replace hF := (hrl _ _) hF hr
  clear hr
  refine goes_oper_k rfl rfl (by k_ne) (fun K hK => ?_)
  go_simp
  refine hK _ _ ⟨?_, ?_⟩
  · rw [listed_nil (by simp [go_sem])]; exact hdq_idle _ _
  clear hK K
  try walk_nrm
  refine Goes.step rfl (fun w hr => ?_)
  replace hF := (hrl _ _) hF hr
  clear hr
  refine goes_call rfl rfl (by k_ne) rfl Try.func10 rfl rfl ⟨hdq_idle _ _, ?_⟩
  refine Goes.stop (fun w hr => ⟨#[.slice ap np pc, gv T 1, gv T 2, gv T 3, gv T 4, gv T 5, gv T 6, v7, .slice au n uc, gv T 9, v10, gv T 11, gv T 12, gv T 13, gv T 14, gv T 15, gv T 16, gv T 17, gv T 18, gv T 19, gv T 20, gv T 21, gv T 22, gv T 23, gv T 24, gv T 25, gv T 26, gv T 27, gv T 28, gv T 29, gv T 30, gv T 31, gv T 32, gv T 33, gv T 34, gv T 35, gv T 36, gv T 37, gv T 38, gv T 39, gv T 40, gv T 41, gv T 42, gv T 43, gv T 44, gv T 45, gv T 46, gv T 47, gv T 48, gv T 49, gv T 50, gv T 51, gv T 52, gv T 53, gv T 54, gv T 55, gv T 56, gv T 57, gv T 58, gv T 59, gv T 60, gv T 61, gv T 62, gv T 63, gv T 64, gv T 65, gv T 66, gv T 67, gv T 68, gv T 69, .slice ap np pc, .slice au n uc, gv T 72, gv T 73, gv T 74, gv T 75, gv T 76, gv T 77, gv T 78, gv T 79, gv T 80, gv T 81, gv T 82, gv T 83, gv T 84, gv T 85, gv T 86, gv T 87, gv T 88, gv T 89, gv T 90, gv T 91, gv T 92, gv T 93, gv T 94, gv T 95, gv T 96, gv T 97, gv T 98, gv T 99, gv T 100, gv T 101, gv T 102, gv T 103, gv T 104], ⟨?_, ?_, ?_, ?_⟩, ?_, hrl _ _ hF hr⟩)
  · rfl
  · rfl
  · rfl
  · rfl
  · simp only [fRun, entryT, bodyM, Try.ntmps10, List.map_toArray, List.map_cons, List.map_nil, Act.eval, List.size_toArray, List.length_cons, List.length_nil, Nat.reduceAdd, Nat.reduceSub, Array.replicate_succ, Array.replicate_zero, List.push_toArray, List.append_toArray, List.nil_append, List.cons_append]
    rfl
set_option maxRecDepth 100000 in
set_option maxHeartbeats 4000000 in
theorem f_mid {v7 v8 v10 u : Value} {e : Nat} (w : World) (hF : Q w) (T : Array Value) (hT : T.size = 105) (h7 : T[7]? = some v7) (h8 : T[8]? = some v8) (h10 : T[10]? = some v10) :
    Goes Try.prog mn (Ext Vn) (HDq (Cx0 Sh)) (fun g w => ∃ T', (T'.size = 105 ∧ T'[7]? = some v7 ∧ T'[8]? = some v8 ∧ T'[10]? = some v10 ∧ T'[13]? = some u ∧ T'[14]? = some (.int .i64 e)) ∧ g = G (fAw und22 [.code body9]) (fRf T' (.inRegion opsFd (0 :: [1, 2, 3, 4, 5, 6, 7, 8, 9, 10, 11, 12, 13, 14, 15, 16, 17, 18, 19, 20, 21, 22, 23, 24, 25, 26, 27, 28, 29, 30]) :: .code .ret :: []) :: []) ∧ Q w) (30)
      (G ((base 6).at (Act.put ⟨T, []⟩ ((opsFc[2]?).bind (·.dst)) (.tuple #[u, .int .i64 e])) (.inRegion opsFc [3, 4, 5, 6, 7] :: .code cdF10 :: [])) []) w := by
  rw [arrG105 T hT]
  simp only [gv_of h7, gv_of h8, gv_of h10]
  simp only [fRf, condF, opsFa, opsFb, opsFc, opsFd, cdF10, cdF9, cdF8, cdF7, cdF6, cdF5, cdF4, cdF3, cdF2, cdF1, bodyF, opsOf, rt, lf, yesC, Try.f6, Option.getD_some]
  walk_nrm
  refine Goes.step rfl (fun w hr => ?_)
  replace hF := (hrl _ _) hF hr
  clear hr
  refine goes_oper_k rfl rfl (by k_ne) (fun K hK => ?_)
  go_simp
  refine hK _ _ ⟨?_, ?_⟩
  · rw [listed_nil (by simp [go_sem])]; exact hdq_idle _ _
  clear hK K
  try walk_nrm
  refine Goes.step rfl (fun w hr => ?_)
  replace hF := (hrl _ _) hF hr
  clear hr
  refine goes_oper_k rfl rfl (by k_ne) (fun K hK => ?_)
  go_simp
  refine hK _ _ ⟨?_, ?_⟩
  · rw [listed_nil (by simp [go_sem])]; exact hdq_idle _ _
  clear hK K
  try walk_nrm
  refine Goes.step rfl (fun w hr => ?_)
  replace hF := (hrl _ _) hF hr
  clear hr
  refine goes_oper_k rfl rfl (by k_ne) (fun K hK => ?_)
  go_simp
  refine hK _ _ ⟨?_, ?_⟩
  · rw [listed_nil (by simp [go_sem])]; exact hdq_idle _ _
  clear hK K
  try walk_nrm
  refine Goes.step rfl (fun w hr => ?_)
  replace hF := (hrl _ _) hF hr
  clear hr
  refine goes_oper_k rfl rfl (by k_ne) (fun K hK => ?_)
  go_simp
  refine hK _ _ ⟨?_, ?_⟩
  · rw [listed_nil (by simp [go_sem])]; exact hdq_idle _ _
  clear hK K
  try walk_nrm
  refine Goes.step rfl (fun w hr => ?_)
  replace hF := (hrl _ _) hF hr
  clear hr
  refine goes_oper_k rfl rfl (by k_ne) (fun K hK => ?_)
  go_simp
  refine hK _ _ ⟨?_, ?_⟩
  · rw [listed_nil (by simp [go_sem])]; exact hdq_idle _ _
  clear hK K
  try walk_nrm
  refine Goes.step rfl (fun w hr => ?_)
  replace hF := (hrl _ _) hF hr
  clear hr
  rw [stepG_region_end]
  simp only [goes_go]
  refine ⟨hdq_idle _ _, ?_⟩
  refine Goes.step rfl (fun w hr => ?_)
  replace hF := (hrl _ _) hF hr
  clear hr
  rw [stepG_seq]
  simp only [goes_go]
  refine ⟨hdq_idle _ _, ?_⟩
  refine Goes.step rfl (fun w hr => ?_)
  replace hF := (hrl _ _) hF hr
  clear hr
  rw [stepG_region]
  simp only [goes_go, List.size_toArray, List.length_cons, List.length_nil, Nat.reduceAdd, Nat.zero_add, List.range, List.range.loop]
  refine ⟨hdq_idle _ _, ?_⟩
  refine Goes.step rfl (fun w hr => ?_)
  replace hF := (hrl _ _) hF hr
  clear hr
  refine goes_call rfl rfl (by k_ne) rfl Try.func9 rfl rfl ⟨hdq_idle _ _, ?_⟩
  refine Goes.stop (fun w hr => ⟨#[gv T 0, gv T 1, gv T 2, gv T 3, gv T 4, gv T 5, gv T 6, v7, v8, gv T 9, v10, gv T 11, gv T 12, u, .int .i64 e, gv T 15, gv T 16, gv T 17, gv T 18, gv T 19, gv T 20, gv T 21, gv T 22, gv T 23, gv T 24, gv T 25, gv T 26, gv T 27, gv T 28, gv T 29, gv T 30, gv T 31, gv T 32, gv T 33, gv T 34, gv T 35, gv T 36, gv T 37, gv T 38, gv T 39, gv T 40, gv T 41, gv T 42, gv T 43, gv T 44, gv T 45, gv T 46, gv T 47, gv T 48, gv T 49, gv T 50, gv T 51, gv T 52, gv T 53, gv T 54, gv T 55, gv T 56, gv T 57, gv T 58, gv T 59, gv T 60, gv T 61, gv T 62, gv T 63, gv T 64, gv T 65, gv T 66, gv T 67, gv T 68, .tuple #[u, .int .i64 e], gv T 70, gv T 71, .tuple #[u, .int .i64 e], u, .int .i64 e, gv T 75, gv T 76, gv T 77, gv T 78, gv T 79, gv T 80, gv T 81, gv T 82, gv T 83, gv T 84, gv T 85, gv T 86, gv T 87, gv T 88, gv T 89, gv T 90, gv T 91, gv T 92, gv T 93, gv T 94, gv T 95, gv T 96, gv T 97, gv T 98, gv T 99, gv T 100, gv T 101, gv T 102, gv T 103, gv T 104], ⟨?_, ?_, ?_, ?_, ?_, ?_⟩, ?_, hrl _ _ hF hr⟩)
  · rfl
  · rfl
  · rfl
  · rfl
  · rfl
  · rfl
  · simp only [fAw, und22, body9, Try.ntmps9, List.map_toArray, List.map_cons, List.map_nil, Act.eval, List.size_toArray, List.length_cons, List.length_nil, Nat.reduceAdd, Nat.reduceSub, Nat.sub_zero, Array.replicate_succ, Array.replicate_zero, List.push_toArray, List.append_toArray, List.nil_append, List.cons_append]
    rfl
set_option maxRecDepth 100000 in
set_option maxHeartbeats 4000000 in
theorem f_out1 {au a : Option Addr} {n uc c : Nat} (w : World) (hF : Q w) (T : Array Value) (hT : T.size = 105) (h8 : T[8]? = some (.slice au n uc)) (h10 : T[10]? = some (.int .i64 0)) (h13 : T[13]? = some (.slice a n c)) (h14 : T[14]? = some (.int .i64 0)) :
    Goes Try.prog mn (Ext Vn) (HDq (Cx0 Sh)) (fun g w => ∃ T' k, T'[6]? = some (.bool true) ∧ g = G { fRf T' k with mode := .returning } [] ∧ Q w) (60)
      (G ((base 6).at (Act.put ⟨T, []⟩ ((opsFd[0]?).bind (·.dst)) (.bool true)) (.inRegion opsFd [1, 2, 3, 4, 5, 6, 7, 8, 9, 10, 11, 12, 13, 14, 15, 16, 17, 18, 19, 20, 21, 22, 23, 24, 25, 26, 27, 28, 29, 30] :: .code .ret :: [])) []) w := by
  rw [arrG105 T hT]
  simp only [gv_of h8, gv_of h10, gv_of h13, gv_of h14]
  simp only [fRf, condF, opsFa, opsFb, opsFc, opsFd, cdF10, cdF9, cdF8, cdF7, cdF6, cdF5, cdF4, cdF3, cdF2, cdF1, bodyF, opsOf, rt, lf, yesC, Try.f6, Option.getD_some]
  walk_nrm
  refine Goes.step rfl (fun w hr => ?_)
  replace hF := (hrl _ _) hF hr
  clear hr
  refine goes_oper_k rfl rfl (by k_ne) (fun K hK => ?_)
  go_simp
  refine hK _ _ ⟨?_, ?_⟩
  · rw [listed_nil (by simp [go_sem])]; exact hdq_idle _ _
  clear hK K
  try walk_nrm
  refine Goes.step rfl (fun w hr => ?_)
  replace hF := (hrl _ _) hF hr
  clear hr
  refine goes_oper_k rfl rfl (by k_ne) (fun K hK => ?_)
  go_simp
  refine hK _ _ ⟨?_, ?_⟩
  · rw [listed_nil (by simp [go_sem])]; exact hdq_idle _ _
  clear hK K
  try walk_nrm
  refine Goes.step rfl (fun w hr => ?_)
  replace hF := (hrl _ _) hF hr
  clear hr
  refine goes_oper_k rfl rfl (by k_ne) (fun K hK => ?_)
  go_simp
  refine hK _ _ ⟨?_, ?_⟩
  · rw [listed_nil (by simp [go_sem])]; exact hdq_idle _ _
  clear hK K
  try walk_nrm
  refine Goes.step rfl (fun w hr => ?_)
  replace hF := (hrl _ _) hF hr
  clear hr
  refine goes_oper_k rfl rfl (by k_ne) (fun K hK => ?_)
  go_simp
  refine hK _ _ ⟨?_, ?_⟩
  · rw [listed_nil (by simp [go_sem])]; exact hdq_idle _ _
  clear hK K
  try walk_nrm
  try simp only [decide_true, decide_false, Bool.not_true, Bool.not_false, bne_self_eq_false, beq_self_eq_true]
  refine Goes.step rfl (fun w hr => ?_)
  replace hF := (hrl _ _) hF hr
  clear hr
  refine goes_oper_k rfl rfl (by k_ne) (fun K hK => ?_)
  go_simp
  refine hK _ _ ⟨?_, ?_⟩
  · rw [listed_nil (by simp [go_sem])]; exact hdq_idle _ _
  clear hK K
  try walk_nrm
  refine Goes.step rfl (fun w hr => ?_)
  replace hF := (hrl _ _) hF hr
  clear hr
  refine goes_oper_k rfl rfl (by k_ne) (fun K hK => ?_)
  go_simp
  refine hK _ _ ⟨?_, ?_⟩
  · rw [listed_nil (by simp [go_sem])]; exact hdq_idle _ _
  clear hK K
  try walk_nrm
  refine Goes.step rfl (fun w hr => ?_)
  replace hF := (hrl _ _) hF hr
  clear hr
  refine goes_oper_k rfl rfl (by k_ne) (fun K hK => ?_)
  go_simp
  refine hK _ _ ⟨?_, ?_⟩
  · rw [listed_nil (by simp [go_sem])]; exact hdq_idle _ _
  clear hK K
  try walk_nrm
  refine Goes.step rfl (fun w hr => ?_)
  replace hF := (hrl _ _) hF hr
  clear hr
  refine goes_oper_k rfl rfl (by k_ne) (fun K hK => ?_)
  go_simp
  refine hK _ _ ⟨?_, ?_⟩
  · rw [listed_nil (by simp [go_sem])]; exact hdq_idle _ _
  clear hK K
  try walk_nrm
  try simp only [decide_true, decide_false, Bool.not_true, Bool.not_false, bne_self_eq_false, beq_self_eq_true]
  refine Goes.step rfl (fun w hr => ?_)
  replace hF := (hrl _ _) hF hr
  clear hr
  refine goes_oper_k rfl rfl (by k_ne) (fun K hK => ?_)
  go_simp
  refine hK _ _ ⟨?_, ?_⟩
  · rw [listed_nil (by simp [go_sem])]; exact hdq_idle _ _
  clear hK K
  try walk_nrm
  refine Goes.step rfl (fun w hr => ?_)
  replace hF := (hrl _ _) hF hr
  clear hr
  refine goes_oper_k rfl rfl (by k_ne) (fun K hK => ?_)
  go_simp
  refine hK _ _ ⟨?_, ?_⟩
  · rw [listed_nil (by simp [go_sem])]; exact hdq_idle _ _
  clear hK K
  try walk_nrm
  refine Goes.step rfl (fun w hr => ?_)
  replace hF := (hrl _ _) hF hr
  clear hr
  refine goes_oper_k rfl rfl (by k_ne) (fun K hK => ?_)
  go_simp
  refine hK _ _ ⟨?_, ?_⟩
  · rw [listed_nil (by simp [go_sem])]; exact hdq_idle _ _
  clear hK K
  try walk_nrm
  refine Goes.step rfl (fun w hr => ?_)
  replace hF := (hrl _ _) hF hr
  clear hr
  refine goes_oper_k rfl rfl (by k_ne) (fun K hK => ?_)
  go_simp
  refine hK _ _ ⟨?_, ?_⟩
  · rw [listed_nil (by simp [go_sem])]; exact hdq_idle _ _
  clear hK K
  try walk_nrm
  refine Goes.step rfl (fun w hr => ?_)
  replace hF := (hrl _ _) hF hr
  clear hr
  refine goes_oper_k rfl rfl (by k_ne) (fun K hK => ?_)
  go_simp
  refine hK _ _ ⟨?_, ?_⟩
  · rw [listed_nil (by simp [go_sem])]; exact hdq_idle _ _
  clear hK K
  try walk_nrm
  refine Goes.step rfl (fun w hr => ?_)
  replace hF := (hrl _ _) hF hr
  clear hr
  refine goes_oper_k rfl rfl (by k_ne) (fun K hK => ?_)
  go_simp
  refine hK _ _ ⟨?_, ?_⟩
  · rw [listed_nil (by simp [go_sem])]; exact hdq_idle _ _
  clear hK K
  try walk_nrm
  try simp only [decide_true, decide_false, Bool.not_true, Bool.not_false, bne_self_eq_false, beq_self_eq_true]
  refine Goes.step rfl (fun w hr => ?_)
  replace hF := (hrl _ _) hF hr
  clear hr
  refine goes_oper_k rfl rfl (by k_ne) (fun K hK => ?_)
  go_simp
  refine hK _ _ ⟨?_, ?_⟩
  · rw [listed_nil (by simp [go_sem])]; exact hdq_idle _ _
  clear hK K
  try walk_nrm
  refine Goes.step rfl (fun w hr => ?_)
  replace hF := (hrl _ _) hF hr
  clear hr
  refine goes_oper_k rfl rfl (by k_ne) (fun K hK => ?_)
  go_simp
  refine hK _ _ ⟨?_, ?_⟩
  · rw [listed_nil (by simp [go_sem])]; exact hdq_idle _ _
  clear hK K
  try walk_nrm
  refine Goes.step rfl (fun w hr => ?_)
  replace hF := (hrl _ _) hF hr
  clear hr
  rw [stepG_unwanted rfl (by rfl)]
  simp only [goes_go]
  refine ⟨hdq_idle _ _, ?_⟩
  try walk_nrm
  refine Goes.step rfl (fun w hr => ?_)
  replace hF := (hrl _ _) hF hr
  clear hr
  rw [stepG_unwanted rfl (by rfl)]
  simp only [goes_go]
  refine ⟨hdq_idle _ _, ?_⟩
  try walk_nrm
  refine Goes.step rfl (fun w hr => ?_)
  replace hF := (hrl _ _) hF hr
  clear hr
  rw [stepG_unwanted rfl (by rfl)]
  simp only [goes_go]
  refine ⟨hdq_idle _ _, ?_⟩
  try walk_nrm
  refine Goes.step rfl (fun w hr => ?_)
  replace hF := (hrl _ _) hF hr
  clear hr
  rw [stepG_unwanted rfl (by rfl)]
  simp only [goes_go]
  refine ⟨hdq_idle _ _, ?_⟩
  try walk_nrm
  refine Goes.step rfl (fun w hr => ?_)
  replace hF := (hrl _ _) hF hr
  clear hr
  rw [stepG_unwanted rfl (by rfl)]
  simp only [goes_go]
  refine ⟨hdq_idle _ _, ?_⟩
  try walk_nrm
  refine Goes.step rfl (fun w hr => ?_)
  replace hF := (hrl _ _) hF hr
  clear hr
  rw [stepG_unwanted rfl (by rfl)]
  simp only [goes_go]
  refine ⟨hdq_idle _ _, ?_⟩
  try walk_nrm
  refine Goes.step rfl (fun w hr => ?_)
  replace hF := (hrl _ _) hF hr
  clear hr
  rw [stepG_unwanted rfl (by rfl)]
  simp only [goes_go]
  refine ⟨hdq_idle _ _, ?_⟩
  try walk_nrm
  refine Goes.step rfl (fun w hr => ?_)
  replace hF := (hrl _ _) hF hr
  clear hr
  rw [stepG_unwanted rfl (by rfl)]
  simp only [goes_go]
  refine ⟨hdq_idle _ _, ?_⟩
  try walk_nrm
  refine Goes.step rfl (fun w hr => ?_)
  replace hF := (hrl _ _) hF hr
  clear hr
  rw [stepG_unwanted rfl (by rfl)]
  simp only [goes_go]
  refine ⟨hdq_idle _ _, ?_⟩
  try walk_nrm
  refine Goes.step rfl (fun w hr => ?_)
  replace hF := (hrl _ _) hF hr
  clear hr
  rw [stepG_unwanted rfl (by rfl)]
  simp only [goes_go]
  refine ⟨hdq_idle _ _, ?_⟩
  try walk_nrm
  refine Goes.step rfl (fun w hr => ?_)
  replace hF := (hrl _ _) hF hr
  clear hr
  rw [stepG_unwanted rfl (by rfl)]
  simp only [goes_go]
  refine ⟨hdq_idle _ _, ?_⟩
  try walk_nrm
  refine Goes.step rfl (fun w hr => ?_)
  replace hF := (hrl _ _) hF hr
  clear hr
  refine goes_oper_k rfl rfl (by k_ne) (fun K hK => ?_)
  go_simp
  refine hK _ _ ⟨?_, ?_⟩
  · rw [listed_nil (by simp [go_sem])]; exact hdq_idle _ _
  clear hK K
  try walk_nrm
  refine Goes.step rfl (fun w hr => ?_)
  replace hF := (hrl _ _) hF hr
  clear hr
  refine goes_oper_k rfl rfl (by k_ne) (fun K hK => ?_)
  go_simp
  refine hK _ _ ⟨?_, ?_⟩
  · rw [listed_nil (by simp [go_sem])]; exact hdq_idle _ _
  clear hK K
  try walk_nrm
  refine Goes.step rfl (fun w hr => ?_)
  replace hF := (hrl _ _) hF hr
  clear hr
  refine goes_oper_k rfl rfl (by k_ne) (fun K hK => ?_)
  go_simp
  refine hK _ _ ⟨?_, ?_⟩
  · rw [listed_nil (by simp [go_sem])]; exact hdq_idle _ _
  clear hK K
  try walk_nrm
  refine Goes.step rfl (fun w hr => ?_)
  replace hF := (hrl _ _) hF hr
  clear hr
  rw [stepG_region_end]
  simp only [goes_go]
  refine ⟨hdq_idle _ _, ?_⟩
  refine Goes.step rfl (fun w hr => ?_)
  replace hF := (hrl _ _) hF hr
  clear hr
  rw [stepG_ret']
  simp only [goes_go]
  refine ⟨hdq_idle _ _, ?_⟩
  refine Goes.stop (fun w hr => ⟨_, _, ?_, rfl, hrl _ _ hF hr⟩)
  simp
end
section
variable {Sh : Loc → Prop} {mn : Bool} {W : World} {sb : Nat} (hS : ShOk Sh W) (hcell : W.cell? ⟨sb, 0, none⟩ = some (.int .i64 0))
include hS hcell
set_option maxRecDepth 100000 in
set_option maxHeartbeats 4000000 in
theorem f_out2 {c : Nat} {v8 : Value} (hc0 : c ≠ 0) (w : World) (hF : Ext Vn W w) (T : Array Value) (hT : T.size = 105) (h7 : T[7]? = some (pb sb)) (h8 : T[8]? = some v8) (h10 : T[10]? = some (.int .i64 (c : Nat))) (h13 : T[13]? = some (.slice none 0 0)) (h14 : T[14]? = some (.int .i64 (c : Nat))) :
    Goes Try.prog mn (Ext Vn) (HDq (Cx0 Sh)) (fun g w => ∃ T' k, T'[6]? = some (.bool true) ∧ g = G { fRf T' k with mode := .returning } [] ∧ Ext Vn W w) (60)
      (G ((base 6).at (Act.put ⟨T, []⟩ ((opsFd[0]?).bind (·.dst)) (.bool true)) (.inRegion opsFd [1, 2, 3, 4, 5, 6, 7, 8, 9, 10, 11, 12, 13, 14, 15, 16, 17, 18, 19, 20, 21, 22, 23, 24, 25, 26, 27, 28, 29, 30] :: .code .ret :: [])) []) w := by
  have hc1 : decide ((c : Int) = 0) = false := decide_eq_false (by omega)
  have hc2 : decide (c = 0) = false := decide_eq_false (by omega)
  have hc3 : ((c : Int) == 0) = false := by simp; omega
  rw [arrG105 T hT]
  simp only [gv_of h7, gv_of h8, gv_of h10, gv_of h13, gv_of h14]
  simp only [fRf, condF, opsFa, opsFb, opsFc, opsFd, cdF10, cdF9, cdF8, cdF7, cdF6, cdF5, cdF4, cdF3, cdF2, cdF1, bodyF, opsOf, rt, lf, yesC, Try.f6, Option.getD_some]
  walk_nrm
  refine Goes.step rfl (fun w hr => ?_)
  replace hF := (fun h r => Ext.trans h r) hF hr
  clear hr
  refine goes_oper_k rfl rfl (by k_ne) (fun K hK => ?_)
  go_simp
  refine hK _ _ ⟨?_, ?_⟩
  · rw [listed_nil (by simp [go_sem])]; exact hdq_idle _ _
  clear hK K
  try walk_nrm
  refine Goes.step rfl (fun w hr => ?_)
  replace hF := (fun h r => Ext.trans h r) hF hr
  clear hr
  refine goes_oper_k rfl rfl (by k_ne) (fun K hK => ?_)
  go_simp
  refine hK _ _ ⟨?_, ?_⟩
  · rw [listed_nil (by simp [go_sem])]; exact hdq_idle _ _
  clear hK K
  try walk_nrm
  refine Goes.step rfl (fun w hr => ?_)
  replace hF := (fun h r => Ext.trans h r) hF hr
  clear hr
  refine goes_oper_k rfl rfl (by k_ne) (fun K hK => ?_)
  go_simp
  refine hK _ _ ⟨?_, ?_⟩
  · rw [listed_nil (by simp [go_sem])]; exact hdq_idle _ _
  clear hK K
  try walk_nrm
  refine Goes.step rfl (fun w hr => ?_)
  replace hF := (fun h r => Ext.trans h r) hF hr
  clear hr
  refine goes_oper_k rfl rfl (by k_ne) (fun K hK => ?_)
  go_simp
  refine hK _ _ ⟨?_, ?_⟩
  · rw [listed_nil (by simp [go_sem])]; exact hdq_idle _ _
  clear hK K
  try walk_nrm
  try simp only [hc1, hc2, hc3, decide_true, Bool.not_true, Bool.not_false, decide_not, bne, beq_self_eq_true]
  refine Goes.step rfl (fun w hr => ?_)
  replace hF := (fun h r => Ext.trans h r) hF hr
  clear hr
  refine goes_oper_k rfl rfl (by k_ne) (fun K hK => ?_)
  go_simp
  refine hK _ _ ⟨?_, ?_⟩
  · rw [listed_nil (by simp [go_sem])]; exact hdq_idle _ _
  clear hK K
  try walk_nrm
  refine Goes.step rfl (fun w hr => ?_)
  replace hF := (fun h r => Ext.trans h r) hF hr
  clear hr
  refine goes_oper_k rfl rfl (by k_ne) (fun K hK => ?_)
  go_simp
  refine hK _ _ ⟨?_, ?_⟩
  · rw [listed_nil (by simp [go_sem])]; exact hdq_idle _ _
  clear hK K
  try walk_nrm
  refine Goes.step rfl (fun w hr => ?_)
  replace hF := (fun h r => Ext.trans h r) hF hr
  clear hr
  refine goes_oper_k rfl rfl (by k_ne) (fun K hK => ?_)
  go_simp
  refine hK _ _ ⟨?_, ?_⟩
  · rw [listed_nil (by simp [go_sem])]; exact hdq_idle _ _
  clear hK K
  try walk_nrm
  refine Goes.step rfl (fun w hr => ?_)
  replace hF := (fun h r => Ext.trans h r) hF hr
  clear hr
  refine goes_oper_k rfl rfl (by k_ne) (fun K hK => ?_)
  go_simp
  refine hK _ _ ⟨?_, ?_⟩
  · rw [listed_nil (by simp [go_sem])]; exact hdq_idle _ _
  clear hK K
  try walk_nrm
  try simp only [hc1, hc2, hc3, decide_true, Bool.not_true, Bool.not_false, decide_not, bne, beq_self_eq_true]
  refine Goes.step rfl (fun w hr => ?_)
  replace hF := (fun h r => Ext.trans h r) hF hr
  clear hr
  refine goes_oper_k rfl rfl (by k_ne) (fun K hK => ?_)
  go_simp
  refine hK _ _ ⟨?_, ?_⟩
  · rw [listed_nil (by simp [go_sem])]; exact hdq_idle _ _
  clear hK K
  try walk_nrm
  refine Goes.step rfl (fun w hr => ?_)
  replace hF := (fun h r => Ext.trans h r) hF hr
  clear hr
  rw [stepG_unwanted rfl (by rfl)]
  simp only [goes_go]
  refine ⟨hdq_idle _ _, ?_⟩
  try walk_nrm
  refine Goes.step rfl (fun w hr => ?_)
  replace hF := (fun h r => Ext.trans h r) hF hr
  clear hr
  rw [stepG_unwanted rfl (by rfl)]
  simp only [goes_go]
  refine ⟨hdq_idle _ _, ?_⟩
  try walk_nrm
  refine Goes.step rfl (fun w hr => ?_)
  replace hF := (fun h r => Ext.trans h r) hF hr
  clear hr
  rw [stepG_unwanted rfl (by rfl)]
  simp only [goes_go]
  refine ⟨hdq_idle _ _, ?_⟩
  try walk_nrm
  refine Goes.step rfl (fun w hr => ?_)
  replace hF := (fun h r => Ext.trans h r) hF hr
  clear hr
  rw [stepG_unwanted rfl (by rfl)]
  simp only [goes_go]
  refine ⟨hdq_idle _ _, ?_⟩
  try walk_nrm
  refine Goes.step rfl (fun w hr => ?_)
  replace hF := (fun h r => Ext.trans h r) hF hr
  clear hr
  rw [stepG_unwanted rfl (by rfl)]
  simp only [goes_go]
  refine ⟨hdq_idle _ _, ?_⟩
  try walk_nrm
  refine Goes.step rfl (fun w hr => ?_)
  replace hF := (fun h r => Ext.trans h r) hF hr
  clear hr
  refine goes_oper_k rfl rfl (by k_ne) (fun K hK => ?_)
  go_simp
  refine hK _ _ ⟨?_, ?_⟩
  · rw [listed_nil (by simp [go_sem])]; exact hdq_idle _ _
  clear hK K
  try walk_nrm
  refine Goes.step rfl (fun w hr => ?_)
  replace hF := (fun h r => Ext.trans h r) hF hr
  clear hr
  refine goes_oper_k rfl rfl (by k_ne) (fun K hK => ?_)
  go_simp
  refine hK _ _ ⟨?_, ?_⟩
  · rw [listed_nil (by simp [go_sem])]; exact hdq_idle _ _
  clear hK K
  try walk_nrm
  refine Goes.step rfl (fun w hr => ?_)
  replace hF := (fun h r => Ext.trans h r) hF hr
  clear hr
  refine goes_oper_k rfl rfl (by k_ne) (fun K hK => ?_)
  go_simp
  refine hK _ _ ⟨?_, ?_⟩
  · rw [listed_nil (by simp [go_sem])]; exact hdq_idle _ _
  clear hK K
  try walk_nrm
  refine Goes.step rfl (fun w hr => ?_)
  replace hF := (fun h r => Ext.trans h r) hF hr
  clear hr
  refine goes_oper_k rfl rfl (by k_ne) (fun K hK => ?_)
  go_simp
  refine hK _ _ ⟨?_, ?_⟩
  · rw [listed_nil (by simp [go_sem])]; exact hdq_idle _ _
  clear hK K
  try walk_nrm
  try simp only [hc1, hc2, hc3, decide_true, Bool.not_true, Bool.not_false, decide_not, bne, beq_self_eq_true]
  refine Goes.step rfl (fun w hr => ?_)
  replace hF := (fun h r => Ext.trans h r) hF hr
  clear hr
  refine goes_oper_k rfl rfl (by k_ne) (fun K hK => ?_)
  go_simp
  refine hK _ _ ⟨?_, ?_⟩
  · rw [listed_nil (by simp [go_sem])]; exact hdq_idle _ _
  clear hK K
  try walk_nrm
  refine Goes.step rfl (fun w hr => ?_)
  replace hF := (fun h r => Ext.trans h r) hF hr
  clear hr
  refine goes_oper_k rfl rfl (by k_ne) (fun K hK => ?_)
  go_simp
  refine hK _ _ ⟨?_, ?_⟩
  · rw [listed_nil (by simp [go_sem])]; exact hdq_idle _ _
  clear hK K
  try walk_nrm
  refine Goes.step rfl (fun w hr => ?_)
  replace hF := (fun h r => Ext.trans h r) hF hr
  clear hr
  refine goes_oper_k rfl rfl (by k_ne) (fun K hK => ?_)
  go_simp
  refine hK _ _ ⟨?_, ?_⟩
  · rw [listed_nil (by simp [go_sem])]; exact hdq_idle _ _
  clear hK K
  try walk_nrm
  refine Goes.step rfl (fun w hr => ?_)
  replace hF := (fun h r => Ext.trans h r) hF hr
  clear hr
  refine goes_oper_k rfl rfl (by k_ne) (fun K hK => ?_)
  go_simp
  refine hK _ _ ⟨?_, ?_⟩
  · rw [listed_nil (by simp [go_sem])]; exact hdq_idle _ _
  clear hK K
  try walk_nrm
  try simp only [hc1, hc2, hc3, decide_true, Bool.not_true, Bool.not_false, decide_not, bne, beq_self_eq_true]
  refine Goes.step rfl (fun w hr => ?_)
  replace hF := (fun h r => Ext.trans h r) hF hr
  clear hr
  refine goes_oper_k rfl rfl (by k_ne) (fun K hK => ?_)
  go_simp
  refine hK _ _ ⟨?_, ?_⟩
  · rw [listed_nil (by simp [go_sem])]; exact hdq_idle _ _
  clear hK K
  try walk_nrm
  refine Goes.step rfl (fun w hr => ?_)
  replace hF := (fun h r => Ext.trans h r) hF hr
  clear hr
  refine goes_oper_k rfl rfl (by k_ne) (fun K hK => ?_)
  go_simp
  refine hK _ _ ⟨?_, ?_⟩
  · rw [listed_nil (by simp [go_sem])]; exact hdq_idle _ _
  clear hK K
  try walk_nrm
  refine Goes.step rfl (fun w hr => ?_)
  replace hF := (fun h r => Ext.trans h r) hF hr
  clear hr
  have hc := cell_ext hF hcell
  refine goes_oper_k rfl rfl (by k_ne) (fun K hK => ?_)
  go_simp
  refine hK _ _ ⟨?_, ?_⟩
  · refine rd_old hS hF hcell (by rfl) (fun e he => ?_)
    have hm := mem_listed he
    simp [go_sem, *] at hm
    exact hm
  clear hK K hc
  try walk_nrm
  refine Goes.step rfl (fun w hr => ?_)
  replace hF := (fun h r => Ext.trans h r) hF hr
  clear hr
  refine goes_oper_k rfl rfl (by k_ne) (fun K hK => ?_)
  go_simp
  refine hK _ _ ⟨?_, ?_⟩
  · rw [listed_nil (by simp [go_sem])]; exact hdq_idle _ _
  clear hK K
  try walk_nrm
  try simp only [hc1, hc2, hc3, decide_true, Bool.not_true, Bool.not_false, decide_not, bne, beq_self_eq_true]
  refine Goes.step rfl (fun w hr => ?_)
  replace hF := (fun h r => Ext.trans h r) hF hr
  clear hr
  refine goes_oper_k rfl rfl (by k_ne) (fun K hK => ?_)
  go_simp
  refine hK _ _ ⟨?_, ?_⟩
  · rw [listed_nil (by simp [go_sem])]; exact hdq_idle _ _
  clear hK K
  try walk_nrm
  refine Goes.step rfl (fun w hr => ?_)
  replace hF := (fun h r => Ext.trans h r) hF hr
  clear hr
  refine goes_oper_k rfl rfl (by k_ne) (fun K hK => ?_)
  go_simp
  refine hK _ _ ⟨?_, ?_⟩
  · rw [listed_nil (by simp [go_sem])]; exact hdq_idle _ _
  clear hK K
  try walk_nrm
  refine Goes.step rfl (fun w hr => ?_)
  replace hF := (fun h r => Ext.trans h r) hF hr
  clear hr
  refine goes_oper_k rfl rfl (by k_ne) (fun K hK => ?_)
  go_simp
  refine hK _ _ ⟨?_, ?_⟩
  · rw [listed_nil (by simp [go_sem])]; exact hdq_idle _ _
  clear hK K
  try walk_nrm
  refine Goes.step rfl (fun w hr => ?_)
  replace hF := (fun h r => Ext.trans h r) hF hr
  clear hr
  refine goes_oper_k rfl rfl (by k_ne) (fun K hK => ?_)
  go_simp
  refine hK _ _ ⟨?_, ?_⟩
  · rw [listed_nil (by simp [go_sem])]; exact hdq_idle _ _
  clear hK K
  try walk_nrm
  refine Goes.step rfl (fun w hr => ?_)
  replace hF := (fun h r => Ext.trans h r) hF hr
  clear hr
  rw [stepG_region_end]
  simp only [goes_go]
  refine ⟨hdq_idle _ _, ?_⟩
  refine Goes.step rfl (fun w hr => ?_)
  replace hF := (fun h r => Ext.trans h r) hF hr
  clear hr
  rw [stepG_ret']
  simp only [goes_go]
  refine ⟨hdq_idle _ _, ?_⟩
  refine Goes.stop (fun w hr => ⟨_, _, ?_, rfl, hF.trans hr⟩)
  simp
end
end
end Go.Proofs.Ytggfcdhkgldbfaa
