/-
  PARTS of a claim, merged by segs.py: CwSh5.
-/
import Derived.Test.YtggfcdhkgldbfaaDoorS41
namespace Go.Proofs.YtggfcdhkgldbfaaDoor
set_option linter.unusedSimpArgs false
set_option linter.unusedVariables false

/-! ### CwSh5 -/
section
set_option linter.unusedSimpArgs false
open Go Go.Conc Go.RowKit Go.ConcR.Gen Cw

abbrev undH : Array Value := #[undef, undef, undef, undef, undef, undef, undef, undef, undef, undef, undef, undef, undef, undef, undef, undef, undef, undef, undef, undef, undef, undef]
def yesH : Code → Code
  | .cond _ y _ => y
  | _ => .skip
noncomputable def condH : Code := rt (lf (rt bodyShr))
noncomputable def opsHa : Array Oper := opsOf (lf (lf (rt bodyShr)))
noncomputable def opsHb : Array Oper := opsOf (lf (yesH condH))
noncomputable def opsHc : Array Oper := opsOf (lf cdH4)
noncomputable def opsHd : Array Oper := opsOf (lf cdH5)
noncomputable def opsHe : Array Oper := opsOf (lf cdH12)
theorem cdH1_eq : cdH1 = .seq (lf cdH1) cdH2 := by simp only [cdH12, cdH11, cdH10, cdH9, cdH8, cdH7, cdH6, cdH5, cdH4, cdH3, cdH2, cdH1, bodyShr, rt, lf, Tryd.f3, Option.getD_some]
theorem cdH2_eq : cdH2 = .seq (lf cdH2) cdH3 := by simp only [cdH12, cdH11, cdH10, cdH9, cdH8, cdH7, cdH6, cdH5, cdH4, cdH3, cdH2, cdH1, bodyShr, rt, lf, Tryd.f3, Option.getD_some]
theorem cdH3_eq : cdH3 = .seq (lf cdH3) cdH4 := by simp only [cdH12, cdH11, cdH10, cdH9, cdH8, cdH7, cdH6, cdH5, cdH4, cdH3, cdH2, cdH1, bodyShr, rt, lf, Tryd.f3, Option.getD_some]
theorem cdH4_eq : cdH4 = .seq (lf cdH4) cdH5 := by simp only [cdH12, cdH11, cdH10, cdH9, cdH8, cdH7, cdH6, cdH5, cdH4, cdH3, cdH2, cdH1, bodyShr, rt, lf, Tryd.f3, Option.getD_some]
theorem cdH5_eq : cdH5 = .seq (lf cdH5) cdH6 := by simp only [cdH12, cdH11, cdH10, cdH9, cdH8, cdH7, cdH6, cdH5, cdH4, cdH3, cdH2, cdH1, bodyShr, rt, lf, Tryd.f3, Option.getD_some]
theorem cdH6_eq : cdH6 = .seq (lf cdH6) cdH7 := by simp only [cdH12, cdH11, cdH10, cdH9, cdH8, cdH7, cdH6, cdH5, cdH4, cdH3, cdH2, cdH1, bodyShr, rt, lf, Tryd.f3, Option.getD_some]
theorem cdH7_eq : cdH7 = .seq (lf cdH7) cdH8 := by simp only [cdH12, cdH11, cdH10, cdH9, cdH8, cdH7, cdH6, cdH5, cdH4, cdH3, cdH2, cdH1, bodyShr, rt, lf, Tryd.f3, Option.getD_some]
theorem cdH8_eq : cdH8 = .seq (lf cdH8) cdH9 := by simp only [cdH12, cdH11, cdH10, cdH9, cdH8, cdH7, cdH6, cdH5, cdH4, cdH3, cdH2, cdH1, bodyShr, rt, lf, Tryd.f3, Option.getD_some]
theorem cdH9_eq : cdH9 = .seq (lf cdH9) cdH10 := by simp only [cdH12, cdH11, cdH10, cdH9, cdH8, cdH7, cdH6, cdH5, cdH4, cdH3, cdH2, cdH1, bodyShr, rt, lf, Tryd.f3, Option.getD_some]
theorem cdH10_eq : cdH10 = .seq (lf cdH10) cdH11 := by simp only [cdH12, cdH11, cdH10, cdH9, cdH8, cdH7, cdH6, cdH5, cdH4, cdH3, cdH2, cdH1, bodyShr, rt, lf, Tryd.f3, Option.getD_some]
theorem cdH11_eq : cdH11 = .seq (lf cdH11) cdH12 := by simp only [cdH12, cdH11, cdH10, cdH9, cdH8, cdH7, cdH6, cdH5, cdH4, cdH3, cdH2, cdH1, bodyShr, rt, lf, Tryd.f3, Option.getD_some]
section
variable {Sh : Loc → Prop} {mn : Bool} {W : World}
set_option maxRecDepth 100000 in
set_option maxHeartbeats 4000000 in
theorem hw_no {ap : Option Addr} {np pc : Nat} {a : Nat → Nat} (hl : 60 < np) (w : World) (hF : Kn W [] w) :
    Goes Tryd.prog mn (Ext Vn) (HDq (Cx0 Sh)) (fun g w => ∃ T', T'.size = 94 ∧ g = G (fAw undH [.code body9]) (fSh T' (.inRegion opsHb (0 :: [1]) :: .code .ret :: .code cdH1 :: []) :: []) ∧ Ext Vn W w) (30)
      (G (fSh #[.slice ap np pc, .agg (cel3 a), undef, undef, undef, undef, undef, undef, undef, undef, undef, undef, undef, undef, undef, undef, undef, undef, undef, undef, undef, undef, undef, undef, undef, undef, undef, undef, undef, undef, undef, undef, undef, undef, undef, undef, undef, undef, undef, undef, undef, undef, undef, undef, undef, undef, undef, undef, undef, undef, undef, undef, undef, undef, undef, undef, undef, undef, undef, undef, undef, undef, undef, undef, undef, undef, undef, undef, undef, undef, undef, undef, undef, undef, undef, undef, undef, undef, undef, undef, undef, undef, undef, undef, undef, undef, undef, undef, undef, undef, undef, undef, undef, undef] ([.code bodyShr])) []) w := by
  have h50 : decide ((60 : Int) < (np : Int)) = true := decide_eq_true (by omega)
  have h50' : decide (60 < np) = true := decide_eq_true (by omega)
  simp only [fSh, opsHa, opsHb, opsHc, opsHd, opsHe, condH, cdH12, cdH11, cdH10, cdH9, cdH8, cdH7, cdH6, cdH5, cdH4, cdH3, cdH2, cdH1, bodyShr, opsOf, rt, lf, yesH, Tryd.f3, Option.getD_some]
  refine Goes.step rfl (fun w hr => ?_)
  replace hF := Kn.rl hF hr
  clear hr
  rw [stepG_seq]
  simp only [goes_go]
  refine ⟨hdq_idle _ _, ?_⟩
  refine Goes.step rfl (fun w hr => ?_)
  replace hF := Kn.rl hF hr
  clear hr
  rw [stepG_region]
  simp only [goes_go, List.size_toArray, List.length_cons, List.length_nil, Nat.reduceAdd, Nat.zero_add, List.range, List.range.loop]
  refine ⟨hdq_idle _ _, ?_⟩
  refine Goes.step rfl (fun w hr => ?_)
  replace hF := Kn.rl hF hr
  clear hr
  refine goes_oper_k rfl rfl (by k_ne) (fun K hK => ?_)
  go_simp
  refine hK _ _ ⟨?_, ?_⟩
  · rw [listed_nil (by simp [go_sem, *])]
    exact al_hd (by simp)
  clear hK K
  try walk_nrm
  replace hF := hF.alloc (Obj.cells (cel3 a) 23 (0, 0))
  generalize w.heap.size = tb at *
  generalize w.alloc (Obj.cells (cel3 a) 23 (0, 0)) = w at *
  refine Goes.step rfl (fun w hr => ?_)
  replace hF := Kn.rl hF hr
  clear hr
  refine goes_oper_k rfl rfl (by k_ne) (fun K hK => ?_)
  go_simp
  refine hK _ _ ⟨?_, ?_⟩
  · rw [listed_nil (by simp [go_sem])]; exact hdq_idle _ _
  clear hK K
  try walk_nrm
  refine Goes.step rfl (fun w hr => ?_)
  replace hF := Kn.rl hF hr
  clear hr
  rw [stepG_region_end]
  simp only [goes_go]
  refine ⟨hdq_idle _ _, ?_⟩
  refine Goes.step rfl (fun w hr => ?_)
  replace hF := Kn.rl hF hr
  clear hr
  rw [stepG_seq]
  simp only [goes_go]
  refine ⟨hdq_idle _ _, ?_⟩
  refine Goes.step rfl (fun w hr => ?_)
  replace hF := Kn.rl hF hr
  clear hr
  rw [stepG_seq]
  simp only [goes_go]
  refine ⟨hdq_idle _ _, ?_⟩
  refine Goes.step rfl (fun w hr => ?_)
  replace hF := Kn.rl hF hr
  clear hr
  rw [stepG_region]
  simp only [goes_go, List.size_toArray, List.length_cons, List.length_nil, Nat.reduceAdd, Nat.zero_add, List.range, List.range.loop]
  refine ⟨hdq_idle _ _, ?_⟩
  refine Goes.step rfl (fun w hr => ?_)
  replace hF := Kn.rl hF hr
  clear hr
  refine goes_oper_k rfl rfl (by k_ne) (fun K hK => ?_)
  go_simp
  refine hK _ _ ⟨?_, ?_⟩
  · rw [listed_nil (by simp [go_sem])]; exact hdq_idle _ _
  clear hK K
  try walk_nrm
  refine Goes.step rfl (fun w hr => ?_)
  replace hF := Kn.rl hF hr
  clear hr
  refine goes_oper_k rfl rfl (by k_ne) (fun K hK => ?_)
  go_simp
  refine hK _ _ ⟨?_, ?_⟩
  · rw [listed_nil (by simp [go_sem])]; exact hdq_idle _ _
  clear hK K
  try walk_nrm
  refine Goes.step rfl (fun w hr => ?_)
  replace hF := Kn.rl hF hr
  clear hr
  refine goes_oper_k rfl rfl (by k_ne) (fun K hK => ?_)
  go_simp
  refine hK _ _ ⟨?_, ?_⟩
  · rw [listed_nil (by simp [go_sem])]; exact hdq_idle _ _
  clear hK K
  try walk_nrm
  try simp only [h50, h50']
  refine Goes.step rfl (fun w hr => ?_)
  replace hF := Kn.rl hF hr
  clear hr
  rw [stepG_region_end]
  simp only [goes_go]
  refine ⟨hdq_idle _ _, ?_⟩
  refine Goes.step rfl (fun w hr => ?_)
  replace hF := Kn.rl hF hr
  clear hr
  rw [stepG_cond (t := true) (by first | rfl | (simp [Act.eval]; omega))]
  simp only [goes_go, if_true, if_false, Bool.false_eq_true, ↓reduceIte]
  refine ⟨hdq_idle _ _, ?_⟩
  refine Goes.step rfl (fun w hr => ?_)
  replace hF := Kn.rl hF hr
  clear hr
  rw [stepG_seq]
  simp only [goes_go]
  refine ⟨hdq_idle _ _, ?_⟩
  refine Goes.step rfl (fun w hr => ?_)
  replace hF := Kn.rl hF hr
  clear hr
  rw [stepG_region]
  simp only [goes_go, List.size_toArray, List.length_cons, List.length_nil, Nat.reduceAdd, Nat.zero_add, List.range, List.range.loop]
  refine ⟨hdq_idle _ _, ?_⟩
  refine Goes.step rfl (fun w hr => ?_)
  replace hF := Kn.rl hF hr
  clear hr
  refine goes_call rfl rfl (by k_ne) rfl Tryd.func4 rfl rfl ⟨hdq_idle _ _, ?_⟩
  refine Goes.stop (fun w hr => ⟨#[.slice ap np pc, .agg (cel3 a), undef, pb tb, .bool false, undef, undef, undef, undef, undef, undef, undef, undef, undef, undef, undef, undef, undef, undef, undef, undef, undef, .slice ap np pc, .int .i64 np, .bool true, undef, undef, undef, undef, undef, undef, undef, undef, undef, undef, undef, undef, undef, undef, undef, undef, undef, undef, undef, undef, undef, undef, undef, undef, undef, undef, undef, undef, undef, undef, undef, undef, undef, undef, undef, undef, undef, undef, undef, undef, undef, undef, undef, undef, undef, undef, undef, undef, undef, undef, undef, undef, undef, undef, undef, undef, undef, undef, undef, undef, undef, undef, undef, undef, undef, undef, undef, undef, undef], ?_, ?_, hF.1.trans hr⟩)
  · rfl
  · simp only [fAw, undH, body9, Tryd.ntmps4, List.map_toArray, List.map_cons, List.map_nil, Act.eval, List.size_toArray, List.length_cons, List.length_nil, Nat.reduceAdd, Nat.reduceSub, Nat.sub_zero, Array.replicate_succ, Array.replicate_zero, List.push_toArray, List.append_toArray, List.nil_append, List.cons_append]
    rfl
set_option maxRecDepth 100000 in
set_option maxHeartbeats 4000000 in
theorem hw_yes {ap : Option Addr} {np pc : Nat} {a : Nat → Nat} (hl : np ≤ 60) (w : World) (hF : Kn W [] w) :
    Goes Tryd.prog mn (Ext Vn) (HDq (Cx0 Sh)) (fun g w => ∃ tb T', (T'.size = 94 ∧ T'[0]? = some (.slice ap np pc) ∧ T'[3]? = some (pb tb)) ∧ g = G (fSh T' (.code cdH1 :: [])) [] ∧ Kn W [(tb, Obj.cells (cel3 a) 23 (0, 0))] w) (30)
      (G (fSh #[.slice ap np pc, .agg (cel3 a), undef, undef, undef, undef, undef, undef, undef, undef, undef, undef, undef, undef, undef, undef, undef, undef, undef, undef, undef, undef, undef, undef, undef, undef, undef, undef, undef, undef, undef, undef, undef, undef, undef, undef, undef, undef, undef, undef, undef, undef, undef, undef, undef, undef, undef, undef, undef, undef, undef, undef, undef, undef, undef, undef, undef, undef, undef, undef, undef, undef, undef, undef, undef, undef, undef, undef, undef, undef, undef, undef, undef, undef, undef, undef, undef, undef, undef, undef, undef, undef, undef, undef, undef, undef, undef, undef, undef, undef, undef, undef, undef, undef] ([.code bodyShr])) []) w := by
  have h50 : decide ((60 : Int) < (np : Int)) = false := decide_eq_false (by omega)
  have h50' : decide (60 < np) = false := decide_eq_false (by omega)
  simp only [fSh, opsHa, opsHb, opsHc, opsHd, opsHe, condH, cdH12, cdH11, cdH10, cdH9, cdH8, cdH7, cdH6, cdH5, cdH4, cdH3, cdH2, cdH1, bodyShr, opsOf, rt, lf, yesH, Tryd.f3, Option.getD_some]
  refine Goes.step rfl (fun w hr => ?_)
  replace hF := Kn.rl hF hr
  clear hr
  rw [stepG_seq]
  simp only [goes_go]
  refine ⟨hdq_idle _ _, ?_⟩
  refine Goes.step rfl (fun w hr => ?_)
  replace hF := Kn.rl hF hr
  clear hr
  rw [stepG_region]
  simp only [goes_go, List.size_toArray, List.length_cons, List.length_nil, Nat.reduceAdd, Nat.zero_add, List.range, List.range.loop]
  refine ⟨hdq_idle _ _, ?_⟩
  refine Goes.step rfl (fun w hr => ?_)
  replace hF := Kn.rl hF hr
  clear hr
  refine goes_oper_k rfl rfl (by k_ne) (fun K hK => ?_)
  go_simp
  refine hK _ _ ⟨?_, ?_⟩
  · rw [listed_nil (by simp [go_sem, *])]
    exact al_hd (by simp)
  clear hK K
  try walk_nrm
  replace hF := hF.alloc (Obj.cells (cel3 a) 23 (0, 0))
  generalize w.heap.size = tb at *
  generalize w.alloc (Obj.cells (cel3 a) 23 (0, 0)) = w at *
  refine Goes.step rfl (fun w hr => ?_)
  replace hF := Kn.rl hF hr
  clear hr
  refine goes_oper_k rfl rfl (by k_ne) (fun K hK => ?_)
  go_simp
  refine hK _ _ ⟨?_, ?_⟩
  · rw [listed_nil (by simp [go_sem])]; exact hdq_idle _ _
  clear hK K
  try walk_nrm
  refine Goes.step rfl (fun w hr => ?_)
  replace hF := Kn.rl hF hr
  clear hr
  rw [stepG_region_end]
  simp only [goes_go]
  refine ⟨hdq_idle _ _, ?_⟩
  refine Goes.step rfl (fun w hr => ?_)
  replace hF := Kn.rl hF hr
  clear hr
  rw [stepG_seq]
  simp only [goes_go]
  refine ⟨hdq_idle _ _, ?_⟩
  refine Goes.step rfl (fun w hr => ?_)
  replace hF := Kn.rl hF hr
  clear hr
  rw [stepG_seq]
  simp only [goes_go]
  refine ⟨hdq_idle _ _, ?_⟩
  refine Goes.step rfl (fun w hr => ?_)
  replace hF := Kn.rl hF hr
  clear hr
  rw [stepG_region]
  simp only [goes_go, List.size_toArray, List.length_cons, List.length_nil, Nat.reduceAdd, Nat.zero_add, List.range, List.range.loop]
  refine ⟨hdq_idle _ _, ?_⟩
  refine Goes.step rfl (fun w hr => ?_)
  replace hF := Kn.rl hF hr
  clear hr
  refine goes_oper_k rfl rfl (by k_ne) (fun K hK => ?_)
  go_simp
  refine hK _ _ ⟨?_, ?_⟩
  · rw [listed_nil (by simp [go_sem])]; exact hdq_idle _ _
  clear hK K
  try walk_nrm
  refine Goes.step rfl (fun w hr => ?_)
  replace hF := Kn.rl hF hr
  clear hr
  refine goes_oper_k rfl rfl (by k_ne) (fun K hK => ?_)
  go_simp
  refine hK _ _ ⟨?_, ?_⟩
  · rw [listed_nil (by simp [go_sem])]; exact hdq_idle _ _
  clear hK K
  try walk_nrm
  refine Goes.step rfl (fun w hr => ?_)
  replace hF := Kn.rl hF hr
  clear hr
  refine goes_oper_k rfl rfl (by k_ne) (fun K hK => ?_)
  go_simp
  refine hK _ _ ⟨?_, ?_⟩
  · rw [listed_nil (by simp [go_sem])]; exact hdq_idle _ _
  clear hK K
  try walk_nrm
  try simp only [h50, h50']
  refine Goes.step rfl (fun w hr => ?_)
  replace hF := Kn.rl hF hr
  clear hr
  rw [stepG_region_end]
  simp only [goes_go]
  refine ⟨hdq_idle _ _, ?_⟩
  refine Goes.step rfl (fun w hr => ?_)
  replace hF := Kn.rl hF hr
  clear hr
  rw [stepG_cond (t := false) (by first | rfl | (simp [Act.eval]; omega))]
  simp only [goes_go, if_true, if_false, Bool.false_eq_true, ↓reduceIte]
  refine ⟨hdq_idle _ _, ?_⟩
  refine Goes.step rfl (fun w hr => ?_)
  replace hF := Kn.rl hF hr
  clear hr
  rw [stepG_skip]
  simp only [goes_go]
  refine ⟨hdq_idle _ _, ?_⟩
  refine Goes.stop (fun w hr => ⟨tb, _, ⟨?_, ?_, ?_⟩, rfl, hF.rl hr⟩) <;> rfl
end
section
variable {Sh : Loc → Prop} {mn : Bool} {Q : World → Prop} (hrl : ∀ w w', Q w → Ext Vn w w' → Q w')
include hrl
set_option maxRecDepth 100000 in
set_option maxHeartbeats 4000000 in
theorem hw_out0 (w : World) (hF : Q w) (T : Array Value) (hT : T.size = 94) :
    Goes Tryd.prog mn (Ext Vn) (HDq (Cx0 Sh)) (fun g w => ∃ T' k, T'[4]? = some (.bool true) ∧ g = G { fSh T' k with mode := .returning } [] ∧ Q w) (10)
      (G ((base 3).at (Act.put ⟨T, []⟩ ((opsHb[0]?).bind (·.dst)) (.bool true)) (.inRegion opsHb [1] :: .code .ret :: .code cdH1 :: [])) []) w := by
  rw [arrG94 T hT]
  simp only [fSh, opsHa, opsHb, opsHc, opsHd, opsHe, condH, cdH12, cdH11, cdH10, cdH9, cdH8, cdH7, cdH6, cdH5, cdH4, cdH3, cdH2, cdH1, bodyShr, opsOf, rt, lf, yesH, Tryd.f3, Option.getD_some]
  walk_nrm
  refine Goes.step rfl (fun w hr => ?_)
  replace hF := (hrl _ _) hF hr
  clear hr
  refine goes_oper_k rfl rfl (by k_ne) (fun K hK => ?_)
  go_simp
  refine hK _ _ ⟨?_, ?_⟩
  · rw [listed_nil (by simp [go_sem])]; exact hdq_idle _ _
  clear hK K
  try walk_nrm
  refine Goes.step rfl (fun w hr => ?_)
  replace hF := (hrl _ _) hF hr
  clear hr
  rw [stepG_region_end]
  simp only [goes_go]
  refine ⟨hdq_idle _ _, ?_⟩
  refine Goes.step rfl (fun w hr => ?_)
  replace hF := (hrl _ _) hF hr
  clear hr
  rw [stepG_ret']
  simp only [goes_go]
  refine ⟨hdq_idle _ _, ?_⟩
  refine Goes.stop (fun w hr => ⟨_, _, ?_, rfl, hrl _ _ hF hr⟩)
  rfl
set_option maxRecDepth 100000 in
set_option maxHeartbeats 4000000 in
theorem hw_val {v s3 s5 s6 : Value} {kc : Nat} {Rv : Value → World → Prop} (w : World) (hF : Q w) (T : Array Value) (hT : T.size = 94) (h0 : T[0]? = some v) (h3 : T[3]? = some s3) (h5 : T[5]? = some s5) (h6 : T[6]? = some s6) (hkc : ∀ w, Q w → CallsC Tryd.prog mn (Ext Vn) (HDq (Cx0 Sh)) 5 #[v, .int .i64 3] kc w (fun r w' => Q w' ∧ Rv r w')) (hRs : ∀ r w w', Rv r w → Ext Vn w w' → Rv r w') :
    Goes Tryd.prog mn (Ext Vn) (HDq (Cx0 Sh)) (fun g w => ∃ r T', (T'.size = 94 ∧ T'[3]? = some s3 ∧ T'[5]? = some s5 ∧ T'[6]? = some s6 ∧ T'[9]? = some r) ∧ g = G (fSh T' (.code cdH5 :: [])) [] ∧ Q w ∧ Rv r w) (10 + kc + 3 + 20)
      (G (fSh T (.code cdH4 :: [])) []) w := by
  rw [arrG94 T hT]
  simp only [gv_of h0, gv_of h3, gv_of h5, gv_of h6]
  simp only [fSh, opsHa, opsHb, opsHc, opsHd, opsHe, condH, cdH12, cdH11, cdH10, cdH9, cdH8, cdH7, cdH6, cdH5, cdH4, cdH3, cdH2, cdH1, bodyShr, opsOf, rt, lf, yesH, Tryd.f3, Option.getD_some]
  refine Goes.step rfl (fun w hr => ?_)
  replace hF := (hrl _ _) hF hr
  clear hr
  rw [stepG_seq]
  simp only [goes_go]
  refine ⟨hdq_idle _ _, ?_⟩
  refine Goes.step rfl (fun w hr => ?_)
  replace hF := (hrl _ _) hF hr
  clear hr
  rw [stepG_region]
  simp only [goes_go, List.size_toArray, List.length_cons, List.length_nil, Nat.reduceAdd, Nat.zero_add, List.range, List.range.loop]
  refine ⟨hdq_idle _ _, ?_⟩
  refine Goes.step rfl (fun w hr => ?_)
  replace hF := (hrl _ _) hF hr
  clear hr
  refine goes_oper_k rfl rfl (by k_ne) (fun K hK => ?_)
  go_simp
  refine hK _ _ ⟨?_, ?_⟩
  · rw [listed_nil (by simp [go_sem])]; exact hdq_idle _ _
  clear hK K
  try walk_nrm
  refine Goes.mono (n := 10 + kc + 3) ?_ (by omega)
  refine Goes.call (hdq_terms (Cx0 Sh) Vn) (f := 5) (args := #[.tmp 39, .const (.int .i64 3)]) (ats := #[22, 3]) rfl rfl (by k_ne) rfl (by simp only [List.map_toArray, List.map_cons, List.map_nil, Act.eval]; exact hkc _ hF) (fun r w hv => ?_)
  clear hF hkc
  obtain ⟨hF, hR⟩ := hv
  try walk_nrm
  refine Goes.step rfl (fun w hr => ?_)
  replace hF := hrl _ _ hF hr
  replace hR := hRs _ _ _ hR hr
  clear hr
  refine goes_oper_k rfl rfl (by k_ne) (fun K hK => ?_)
  go_simp
  refine hK _ _ ⟨?_, ?_⟩
  · rw [listed_nil (by simp [go_sem])]; exact hdq_idle _ _
  clear hK K
  try walk_nrm
  refine Goes.step rfl (fun w hr => ?_)
  replace hF := hrl _ _ hF hr
  replace hR := hRs _ _ _ hR hr
  clear hr
  rw [stepG_region_end]
  simp only [goes_go]
  refine ⟨hdq_idle _ _, ?_⟩
  refine Goes.stop (fun w hr => ⟨r, _, ⟨?_, ?_, ?_, ?_, ?_⟩, rfl, hrl _ _ hF hr, hRs _ _ _ hR hr⟩) <;> rfl
set_option maxRecDepth 100000 in
set_option maxHeartbeats 4000000 in
theorem hw_in {ap au : Option Addr} {np pc n uc : Nat} {s3 s5 : Value} (w : World) (hF : Q w) (T : Array Value) (hT : T.size = 94) (h3 : T[3]? = some s3) (h5 : T[5]? = some s5) (h6 : T[6]? = some (.slice au n uc)) (h9 : T[9]? = some (.slice ap np pc)) :
    Goes Tryd.prog mn (Ext Vn) (HDq (Cx0 Sh)) (fun g w => ∃ T', (T'.size = 94 ∧ T'[3]? = some s3 ∧ T'[5]? = some s5 ∧ T'[9]? = some (.slice ap np pc)) ∧ g = G (fRun (entryT (.slice ap np pc) (.slice au n uc)) [.code bodyM]) (fSh T' (.inRegion opsHd (2 :: [3, 4, 5, 6, 7]) :: .code cdH6 :: []) :: []) ∧ Q w) (20)
      (G (fSh T (.code cdH5 :: [])) []) w := by
  rw [arrG94 T hT]
  simp only [gv_of h3, gv_of h5, gv_of h6, gv_of h9]
  simp only [fSh, opsHa, opsHb, opsHc, opsHd, opsHe, condH, cdH12, cdH11, cdH10, cdH9, cdH8, cdH7, cdH6, cdH5, cdH4, cdH3, cdH2, cdH1, bodyShr, opsOf, rt, lf, yesH, Tryd.f3, Option.getD_some]
  refine Goes.step rfl (fun w hr => ?_)
  replace hF := (hrl _ _) hF hr
  clear hr
  rw [stepG_seq]
  simp only [goes_go]
  refine ⟨hdq_idle _ _, ?_⟩
  refine Goes.step rfl (fun w hr => ?_)
  replace hF := (hrl _ _) hF hr
  clear hr
  rw [stepG_region]
  simp only [goes_go, List.size_toArray, List.length_cons, List.length_nil, Nat.reduceAdd, Nat.zero_add, List.range, List.range.loop]
  refine ⟨hdq_idle _ _, ?_⟩
  refine Goes.step rfl (fun w hr => ?_)
  replace hF := (hrl _ _) hF hr
  clear hr
  refine goes_oper_k rfl rfl (by k_ne) (fun K hK => ?_)
  go_simp
  refine hK _ _ ⟨?_, ?_⟩
  · rw [listed_nil (by simp [go_sem])]; exact hdq_idle _ _
  clear hK K
  try walk_nrm
  refine Goes.step rfl (fun w hr => ?_)
  replace hF := (hrl _ _) hF hr
  clear hr
  refine goes_oper_k rfl rfl (by k_ne) (fun K hK => ?_)
  go_simp
  refine hK _ _ ⟨?_, ?_⟩
  · rw [listed_nil (by simp [go_sem])]; exact hdq_idle _ _
  clear hK K
  try walk_nrm
  refine Goes.step rfl (fun w hr => ?_)
  replace hF := (hrl _ _) hF hr
  clear hr
  refine goes_call rfl rfl (by k_ne) rfl Tryd.func6 rfl rfl ⟨hdq_idle _ _, ?_⟩
  refine Goes.stop (fun w hr => ⟨#[gv T 0, gv T 1, gv T 2, s3, gv T 4, s5, .slice au n uc, gv T 7, gv T 8, .slice ap np pc, gv T 10, gv T 11, gv T 12, gv T 13, gv T 14, gv T 15, gv T 16, gv T 17, gv T 18, gv T 19, gv T 20, gv T 21, gv T 22, gv T 23, gv T 24, gv T 25, gv T 26, gv T 27, gv T 28, gv T 29, gv T 30, gv T 31, gv T 32, gv T 33, gv T 34, gv T 35, gv T 36, gv T 37, gv T 38, gv T 39, gv T 40, gv T 41, .slice ap np pc, .slice au n uc, gv T 44, gv T 45, gv T 46, gv T 47, gv T 48, gv T 49, gv T 50, gv T 51, gv T 52, gv T 53, gv T 54, gv T 55, gv T 56, gv T 57, gv T 58, gv T 59, gv T 60, gv T 61, gv T 62, gv T 63, gv T 64, gv T 65, gv T 66, gv T 67, gv T 68, gv T 69, gv T 70, gv T 71, gv T 72, gv T 73, gv T 74, gv T 75, gv T 76, gv T 77, gv T 78, gv T 79, gv T 80, gv T 81, gv T 82, gv T 83, gv T 84, gv T 85, gv T 86, gv T 87, gv T 88, gv T 89, gv T 90, gv T 91, gv T 92, gv T 93], ⟨?_, ?_, ?_, ?_⟩, ?_, hrl _ _ hF hr⟩)
  · rfl
  · rfl
  · rfl
  · rfl
  · simp only [fRun, entryT, bodyM, Tryd.ntmps6, List.map_toArray, List.map_cons, List.map_nil, Act.eval, List.size_toArray, List.length_cons, List.length_nil, Nat.reduceAdd, Nat.reduceSub, Array.replicate_succ, Array.replicate_zero, List.push_toArray, List.append_toArray, List.nil_append, List.cons_append]
    rfl
set_option maxRecDepth 100000 in
set_option maxHeartbeats 4000000 in
theorem hw_mid {s3 s5 s9 u : Value} {e : Nat} (w : World) (hF : Q w) (T : Array Value) (hT : T.size = 94) (h3 : T[3]? = some s3) (h5 : T[5]? = some s5) (h9 : T[9]? = some s9) :
    Goes Tryd.prog mn (Ext Vn) (HDq (Cx0 Sh)) (fun g w => ∃ T', (T'.size = 94 ∧ T'[3]? = some s3 ∧ T'[5]? = some s5 ∧ T'[9]? = some s9 ∧ T'[10]? = some u ∧ T'[11]? = some (.int .i64 e)) ∧ g = G (fSh T' (.code cdH6 :: [])) [] ∧ Q w) (30)
      (G ((base 3).at (Act.put ⟨T, []⟩ ((opsHd[2]?).bind (·.dst)) (.tuple #[u, .int .i64 e])) (.inRegion opsHd [3, 4, 5, 6, 7] :: .code cdH6 :: [])) []) w := by
  rw [arrG94 T hT]
  simp only [gv_of h3, gv_of h5, gv_of h9]
  simp only [fSh, opsHa, opsHb, opsHc, opsHd, opsHe, condH, cdH12, cdH11, cdH10, cdH9, cdH8, cdH7, cdH6, cdH5, cdH4, cdH3, cdH2, cdH1, bodyShr, opsOf, rt, lf, yesH, Tryd.f3, Option.getD_some]
  walk_nrm
  refine Goes.step rfl (fun w hr => ?_)
  replace hF := (hrl _ _) hF hr
  clear hr
  refine goes_oper_k rfl rfl (by k_ne) (fun K hK => ?_)
  go_simp
  refine hK _ _ ⟨?_, ?_⟩
  · rw [listed_nil (by simp [go_sem])]; exact hdq_idle _ _
  clear hK K
  try walk_nrm
  refine Goes.step rfl (fun w hr => ?_)
  replace hF := (hrl _ _) hF hr
  clear hr
  refine goes_oper_k rfl rfl (by k_ne) (fun K hK => ?_)
  go_simp
  refine hK _ _ ⟨?_, ?_⟩
  · rw [listed_nil (by simp [go_sem])]; exact hdq_idle _ _
  clear hK K
  try walk_nrm
  refine Goes.step rfl (fun w hr => ?_)
  replace hF := (hrl _ _) hF hr
  clear hr
  refine goes_oper_k rfl rfl (by k_ne) (fun K hK => ?_)
  go_simp
  refine hK _ _ ⟨?_, ?_⟩
  · rw [listed_nil (by simp [go_sem])]; exact hdq_idle _ _
  clear hK K
  try walk_nrm
  refine Goes.step rfl (fun w hr => ?_)
  replace hF := (hrl _ _) hF hr
  clear hr
  refine goes_oper_k rfl rfl (by k_ne) (fun K hK => ?_)
  go_simp
  refine hK _ _ ⟨?_, ?_⟩
  · rw [listed_nil (by simp [go_sem])]; exact hdq_idle _ _
  clear hK K
  try walk_nrm
  refine Goes.step rfl (fun w hr => ?_)
  replace hF := (hrl _ _) hF hr
  clear hr
  refine goes_oper_k rfl rfl (by k_ne) (fun K hK => ?_)
  go_simp
  refine hK _ _ ⟨?_, ?_⟩
  · rw [listed_nil (by simp [go_sem])]; exact hdq_idle _ _
  clear hK K
  try walk_nrm
  refine Goes.step rfl (fun w hr => ?_)
  replace hF := (hrl _ _) hF hr
  clear hr
  rw [stepG_region_end]
  simp only [goes_go]
  refine ⟨hdq_idle _ _, ?_⟩
  refine Goes.stop (fun w hr => ⟨_, ⟨?_, ?_, ?_, ?_, ?_, ?_⟩, rfl, hrl _ _ hF hr⟩) <;> rfl
set_option maxRecDepth 100000 in
set_option maxHeartbeats 4000000 in
theorem hw_aw {s5 s10 s11 s12 s17 : Value} (w : World) (hF : Q w) (T : Array Value) (hT : T.size = 94) (h5 : T[5]? = some s5) (h10 : T[10]? = some s10) (h11 : T[11]? = some s11) (h12 : T[12]? = some s12) (h17 : T[17]? = some s17) :
    Goes Tryd.prog mn (Ext Vn) (HDq (Cx0 Sh)) (fun g w => ∃ T', (T'.size = 94 ∧ T'[5]? = some s5 ∧ T'[10]? = some s10 ∧ T'[11]? = some s11 ∧ T'[12]? = some s12 ∧ T'[17]? = some s17) ∧ g = G (fAw undH [.code body9]) (fSh T' (.inRegion opsHe (0 :: [1, 2, 3, 4, 5, 6, 7, 8, 9, 10, 11, 12, 13, 14, 15]) :: .code .ret :: []) :: []) ∧ Q w) (20)
      (G (fSh T (.code cdH12 :: [])) []) w := by
  rw [arrG94 T hT]
  simp only [gv_of h5, gv_of h10, gv_of h11, gv_of h12, gv_of h17]
  simp only [fSh, opsHa, opsHb, opsHc, opsHd, opsHe, condH, cdH12, cdH11, cdH10, cdH9, cdH8, cdH7, cdH6, cdH5, cdH4, cdH3, cdH2, cdH1, bodyShr, opsOf, rt, lf, yesH, Tryd.f3, Option.getD_some]
  refine Goes.step rfl (fun w hr => ?_)
  replace hF := (hrl _ _) hF hr
  clear hr
  rw [stepG_seq]
  simp only [goes_go]
  refine ⟨hdq_idle _ _, ?_⟩
  refine Goes.step rfl (fun w hr => ?_)
  replace hF := (hrl _ _) hF hr
  clear hr
  rw [stepG_region]
  simp only [goes_go, List.size_toArray, List.length_cons, List.length_nil, Nat.reduceAdd, Nat.zero_add, List.range, List.range.loop]
  refine ⟨hdq_idle _ _, ?_⟩
  refine Goes.step rfl (fun w hr => ?_)
  replace hF := (hrl _ _) hF hr
  clear hr
  refine goes_call rfl rfl (by k_ne) rfl Tryd.func4 rfl rfl ⟨hdq_idle _ _, ?_⟩
  refine Goes.stop (fun w hr => ⟨#[gv T 0, gv T 1, gv T 2, gv T 3, gv T 4, s5, gv T 6, gv T 7, gv T 8, gv T 9, s10, s11, s12, gv T 13, gv T 14, gv T 15, gv T 16, s17, gv T 18, gv T 19, gv T 20, gv T 21, gv T 22, gv T 23, gv T 24, gv T 25, gv T 26, gv T 27, gv T 28, gv T 29, gv T 30, gv T 31, gv T 32, gv T 33, gv T 34, gv T 35, gv T 36, gv T 37, gv T 38, gv T 39, gv T 40, gv T 41, gv T 42, gv T 43, gv T 44, gv T 45, gv T 46, gv T 47, gv T 48, gv T 49, gv T 50, gv T 51, gv T 52, gv T 53, gv T 54, gv T 55, gv T 56, gv T 57, gv T 58, gv T 59, gv T 60, gv T 61, gv T 62, gv T 63, gv T 64, gv T 65, gv T 66, gv T 67, gv T 68, gv T 69, gv T 70, gv T 71, gv T 72, gv T 73, gv T 74, gv T 75, gv T 76, gv T 77, gv T 78, gv T 79, gv T 80, gv T 81, gv T 82, gv T 83, gv T 84, gv T 85, gv T 86, gv T 87, gv T 88, gv T 89, gv T 90, gv T 91, gv T 92, gv T 93], ⟨?_, ?_, ?_, ?_, ?_, ?_⟩, ?_, hrl _ _ hF hr⟩)
  · rfl
  · rfl
  · rfl
  · rfl
  · rfl
  · rfl
  · simp only [fAw, undH, body9, Tryd.ntmps4, List.map_toArray, List.map_cons, List.map_nil, Act.eval, List.size_toArray, List.length_cons, List.length_nil, Nat.reduceAdd, Nat.reduceSub, Nat.sub_zero, Array.replicate_succ, Array.replicate_zero, List.push_toArray, List.append_toArray, List.nil_append, List.cons_append]
    rfl
end
section
variable {Sh : Loc → Prop} {mn : Bool} {W : World} {sb pv pw m : Nat} {a1 a2 : Option Addr} {n1 n2 c1 c2 : Nat} (hS : ShOk Sh W) (hc5 : W.cell? ⟨sb, 0, none⟩ = some (.int .i64 m)) (hc12 : W.cell? ⟨pv, 0, none⟩ = some (.int .i64 m)) (hc17 : W.cell? ⟨pw, 0, none⟩ = some (.slice a2 n2 c2))
include hS hc5 hc12 hc17
set_option maxRecDepth 100000 in
set_option maxHeartbeats 4000000 in
theorem hw_end {kc : Nat} (w : World) (hF : Ext Vn W w) (T : Array Value) (hT : T.size = 94) (h5 : T[5]? = some (pb sb)) (h10 : T[10]? = some (.slice a1 n1 c1)) (h11 : T[11]? = some (.int .i64 0)) (h12 : T[12]? = some (pb pv)) (h17 : T[17]? = some (pb pw)) (hkc : ∀ w, Ext Vn W w → CallsC Tryd.prog mn (Ext Vn) (HDq (Cx0 Sh)) 9 #[.slice a1 n1 c1, .slice a2 n2 c2] kc w (fun r w' => r = .bool true ∧ Ext Vn W w')) :
    Goes Tryd.prog mn (Ext Vn) (HDq (Cx0 Sh)) (fun g w => ∃ T' k, T'[4]? = some (.bool true) ∧ g = G { fSh T' k with mode := .returning } [] ∧ Ext Vn W w) (10 + kc + 3 + 60)
      (G ((base 3).at (Act.put ⟨T, []⟩ ((opsHe[0]?).bind (·.dst)) (.bool true)) (.inRegion opsHe [1, 2, 3, 4, 5, 6, 7, 8, 9, 10, 11, 12, 13, 14, 15] :: .code .ret :: [])) []) w := by
  rw [arrG94 T hT]
  simp only [gv_of h5, gv_of h10, gv_of h11, gv_of h12, gv_of h17]
  simp only [fSh, opsHa, opsHb, opsHc, opsHd, opsHe, condH, cdH12, cdH11, cdH10, cdH9, cdH8, cdH7, cdH6, cdH5, cdH4, cdH3, cdH2, cdH1, bodyShr, opsOf, rt, lf, yesH, Tryd.f3, Option.getD_some]
  walk_nrm
  refine Goes.step rfl (fun w hr => ?_)
  replace hF := (fun h r => Ext.trans h r) hF hr
  clear hr
  refine goes_oper_k rfl rfl (by k_ne) (fun K hK => ?_)
  go_simp
  refine hK _ _ ⟨?_, ?_⟩
  · rw [listed_nil (by simp [go_sem])]; exact hdq_idle _ _
  clear hK K
  try walk_nrm
  refine Goes.step rfl (fun w hr => ?_)
  replace hF := (fun h r => Ext.trans h r) hF hr
  clear hr
  refine goes_oper_k rfl rfl (by k_ne) (fun K hK => ?_)
  go_simp
  refine hK _ _ ⟨?_, ?_⟩
  · rw [listed_nil (by simp [go_sem])]; exact hdq_idle _ _
  clear hK K
  try walk_nrm
  refine Goes.step rfl (fun w hr => ?_)
  replace hF := (fun h r => Ext.trans h r) hF hr
  clear hr
  refine goes_oper_k rfl rfl (by k_ne) (fun K hK => ?_)
  go_simp
  refine hK _ _ ⟨?_, ?_⟩
  · rw [listed_nil (by simp [go_sem])]; exact hdq_idle _ _
  clear hK K
  try walk_nrm
  try simp only [decide_true, decide_false, Bool.not_true, Bool.not_false, bne_self_eq_false, beq_self_eq_true]
  refine Goes.step rfl (fun w hr => ?_)
  replace hF := (fun h r => Ext.trans h r) hF hr
  clear hr
  refine goes_oper_k rfl rfl (by k_ne) (fun K hK => ?_)
  go_simp
  refine hK _ _ ⟨?_, ?_⟩
  · rw [listed_nil (by simp [go_sem])]; exact hdq_idle _ _
  clear hK K
  try walk_nrm
  refine Goes.step rfl (fun w hr => ?_)
  replace hF := (fun h r => Ext.trans h r) hF hr
  clear hr
  refine goes_oper_k rfl rfl (by k_ne) (fun K hK => ?_)
  go_simp
  refine hK _ _ ⟨?_, ?_⟩
  · rw [listed_nil (by simp [go_sem])]; exact hdq_idle _ _
  clear hK K
  try walk_nrm
  refine Goes.step rfl (fun w hr => ?_)
  replace hF := (fun h r => Ext.trans h r) hF hr
  clear hr
  refine goes_oper_k rfl rfl (by k_ne) (fun K hK => ?_)
  go_simp
  refine hK _ _ ⟨?_, ?_⟩
  · rw [listed_nil (by simp [go_sem])]; exact hdq_idle _ _
  clear hK K
  try walk_nrm
  refine Goes.step rfl (fun w hr => ?_)
  replace hF := (fun h r => Ext.trans h r) hF hr
  clear hr
  have hc := cell_ext hF hc17
  refine goes_oper_k rfl rfl (by k_ne) (fun K hK => ?_)
  go_simp
  refine hK _ _ ⟨?_, ?_⟩
  · refine rd_old hS hF hc17 (by rfl) (fun e he => ?_)
    have hm := mem_listed he
    simp [go_sem, *] at hm
    exact hm
  clear hK K hc
  try walk_nrm
  refine Goes.mono (n := 10 + kc + 3) ?_ (by omega)
  refine Goes.call (hdq_terms (Cx0 Sh) Vn) (f := 9) (args := #[.tmp 85, .tmp 86]) (ats := #[31, 37]) rfl rfl (by k_ne) rfl (by simp only [List.map_toArray, List.map_cons, List.map_nil, Act.eval]; exact hkc _ hF) (fun r w hv => ?_)
  clear hF hkc
  obtain ⟨rfl, hF⟩ := hv
  try walk_nrm
  refine Goes.step rfl (fun w hr => ?_)
  replace hF := (fun h r => Ext.trans h r) hF hr
  clear hr
  refine goes_oper_k rfl rfl (by k_ne) (fun K hK => ?_)
  go_simp
  refine hK _ _ ⟨?_, ?_⟩
  · rw [listed_nil (by simp [go_sem])]; exact hdq_idle _ _
  clear hK K
  try walk_nrm
  refine Goes.step rfl (fun w hr => ?_)
  replace hF := (fun h r => Ext.trans h r) hF hr
  clear hr
  refine goes_oper_k rfl rfl (by k_ne) (fun K hK => ?_)
  go_simp
  refine hK _ _ ⟨?_, ?_⟩
  · rw [listed_nil (by simp [go_sem])]; exact hdq_idle _ _
  clear hK K
  try walk_nrm
  refine Goes.step rfl (fun w hr => ?_)
  replace hF := (fun h r => Ext.trans h r) hF hr
  clear hr
  have hc := cell_ext hF hc5
  refine goes_oper_k rfl rfl (by k_ne) (fun K hK => ?_)
  go_simp
  refine hK _ _ ⟨?_, ?_⟩
  · refine rd_old hS hF hc5 (by rfl) (fun e he => ?_)
    have hm := mem_listed he
    simp [go_sem, *] at hm
    exact hm
  clear hK K hc
  try walk_nrm
  refine Goes.step rfl (fun w hr => ?_)
  replace hF := (fun h r => Ext.trans h r) hF hr
  clear hr
  have hc := cell_ext hF hc12
  refine goes_oper_k rfl rfl (by k_ne) (fun K hK => ?_)
  go_simp
  refine hK _ _ ⟨?_, ?_⟩
  · refine rd_old hS hF hc12 (by rfl) (fun e he => ?_)
    have hm := mem_listed he
    simp [go_sem, *] at hm
    exact hm
  clear hK K hc
  try walk_nrm
  refine Goes.step rfl (fun w hr => ?_)
  replace hF := (fun h r => Ext.trans h r) hF hr
  clear hr
  refine goes_oper_k rfl rfl (by k_ne) (fun K hK => ?_)
  go_simp
  refine hK _ _ ⟨?_, ?_⟩
  · rw [listed_nil (by simp [go_sem])]; exact hdq_idle _ _
  clear hK K
  try walk_nrm
  try simp only [decide_true, decide_false, Bool.not_true, Bool.not_false, bne_self_eq_false, beq_self_eq_true]
  refine Goes.step rfl (fun w hr => ?_)
  replace hF := (fun h r => Ext.trans h r) hF hr
  clear hr
  refine goes_oper_k rfl rfl (by k_ne) (fun K hK => ?_)
  go_simp
  refine hK _ _ ⟨?_, ?_⟩
  · rw [listed_nil (by simp [go_sem])]; exact hdq_idle _ _
  clear hK K
  try walk_nrm
  refine Goes.step rfl (fun w hr => ?_)
  replace hF := (fun h r => Ext.trans h r) hF hr
  clear hr
  refine goes_oper_k rfl rfl (by k_ne) (fun K hK => ?_)
  go_simp
  refine hK _ _ ⟨?_, ?_⟩
  · rw [listed_nil (by simp [go_sem])]; exact hdq_idle _ _
  clear hK K
  try walk_nrm
  refine Goes.step rfl (fun w hr => ?_)
  replace hF := (fun h r => Ext.trans h r) hF hr
  clear hr
  rw [stepG_region_end]
  simp only [goes_go]
  refine ⟨hdq_idle _ _, ?_⟩
  refine Goes.step rfl (fun w hr => ?_)
  replace hF := (fun h r => Ext.trans h r) hF hr
  clear hr
  rw [stepG_ret']
  simp only [goes_go]
  refine ⟨hdq_idle _ _, ?_⟩
  refine Goes.stop (fun w hr => ⟨_, _, ?_, rfl, hF.trans hr⟩)
  simp
end
end
end Go.Proofs.YtggfcdhkgldbfaaDoor
