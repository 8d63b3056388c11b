/-
  PARTS of a claim, merged by segs.py: CwLaw.
-/
import Derived.Test.YtggfcdhkgldbfaaD38
namespace Go.Proofs.Ytggfcdhkgldbfaa
set_option linter.unusedSimpArgs false
set_option linter.unusedVariables false

/-! ### CwLaw -/
section
set_option linter.unusedSimpArgs false
open Go Go.Conc Go.RowKit Go.ConcR.Gen Cw

noncomputable def bodyL : Code := Try.f3.body.getD .skip
noncomputable def restL : Code := rt (rt (rt bodyL))
noncomputable def opsL1 : Array Oper := opsOf (lf (rt bodyL))
noncomputable def opsL2 : Array Oper := opsOf (lf (lf (rt (rt bodyL))))
noncomputable def condL : Code := rt (lf (rt (rt bodyL)))
def yesC : Code → Code
  | .cond _ x _ => x
  | _ => .skip
noncomputable def opsL3 : Array Oper := opsOf (lf (yesC condL))
noncomputable def opsL4 : Array Oper := opsOf (lf restL)
noncomputable def opsL5 : Array Oper := opsOf (lf (rt restL))
abbrev fLw (T : Array Value) (k : List Item) : Frame := (base 3).at ⟨T, []⟩ k
abbrev und22 : Array Value := #[undef, undef, undef, undef, undef, undef, undef, undef, undef, undef, undef, undef, undef, undef, undef, undef, undef, undef, undef, undef, undef, undef]
section
variable {Sh : Loc → Prop} {mn : Bool} {Q : World → Prop} (hrl : ∀ w w', Q w → Ext Vn w w' → Q w')
include hrl
set_option maxRecDepth 100000 in
set_option maxHeartbeats 2000000 in
theorem l_valid {v : Value} {al : Option Addr} {n lcap kc : Nat} {Rv : Value → World → Prop} (w : World) (hF : Q w) (hkc : ∀ w, Q w → CallsC Try.prog mn (Ext Vn) (HDq (Cx0 Sh)) 7 #[v, .int .i64 n] kc w (fun r w' => Q w' ∧ Rv r w')) (hRs : ∀ r w w', Rv r w → Ext Vn w w' → Rv r w') :
    Goes Try.prog mn (Ext Vn) (HDq (Cx0 Sh)) (fun g w => ∃ r T', (T'.size = 36 ∧ T'[1]? = some (.slice al n lcap) ∧ T'[11]? = some r) ∧ g = G (fLw T' (.inRegion opsL1 [4] :: .code (rt (rt bodyL)) :: [])) [] ∧ Q w ∧ Rv r w) (10 + kc + 3 + 20)
      (G (fLw #[v, .slice al n lcap, undef, undef, undef, undef, undef, undef, undef, undef, undef, undef, undef, undef, undef, undef, undef, undef, undef, undef, undef, undef, undef, undef, undef, undef, undef, undef, undef, undef, undef, undef, undef, undef, undef, undef] [.code bodyL]) []) w := by
  simp only [fLw, fAw, opsL1, opsL2, opsL3, opsL4, opsL5, condL, restL, bodyL, body9, yesC, inner, rt, lf, opsOf, Try.f3, Option.getD_some]
  refine Goes.step rfl (fun w hr => ?_)
  replace hF := (hrl _ _) hF hr
  clear hr
  rw [stepG_seq]
  simp only [goes_go]
  refine ⟨hdq_idle _ _, ?_⟩
  refine Goes.step rfl (fun w hr => ?_)
  replace hF := (hrl _ _) hF hr
  clear hr
  rw [stepG_region]
  simp only [goes_go, List.size_toArray, List.length_cons, List.length_nil, Nat.reduceAdd, Nat.zero_add, List.range, List.range.loop]
  refine ⟨hdq_idle _ _, ?_⟩
  refine Goes.step rfl (fun w hr => ?_)
  replace hF := (hrl _ _) hF hr
  clear hr
  refine goes_oper_k rfl rfl (by k_ne) (fun K hK => ?_)
  go_simp
  refine hK _ _ ⟨?_, ?_⟩
  · rw [listed_nil (by simp [go_sem])]; exact hdq_idle _ _
  clear hK K
  try walk_nrm
  refine Goes.step rfl (fun w hr => ?_)
  replace hF := (hrl _ _) hF hr
  clear hr
  rw [stepG_region_end]
  simp only [goes_go]
  refine ⟨hdq_idle _ _, ?_⟩
  refine Goes.step rfl (fun w hr => ?_)
  replace hF := (hrl _ _) hF hr
  clear hr
  rw [stepG_seq]
  simp only [goes_go]
  refine ⟨hdq_idle _ _, ?_⟩
  refine Goes.step rfl (fun w hr => ?_)
  replace hF := (hrl _ _) hF hr
  clear hr
  rw [stepG_region]
  simp only [goes_go, List.size_toArray, List.length_cons, List.length_nil, Nat.reduceAdd, Nat.zero_add, List.range, List.range.loop]
  refine ⟨hdq_idle _ _, ?_⟩
  refine Goes.step rfl (fun w hr => ?_)
  replace hF := (hrl _ _) hF hr
  clear hr
  refine goes_oper_k rfl rfl (by k_ne) (fun K hK => ?_)
  go_simp
  refine hK _ _ ⟨?_, ?_⟩
  · rw [listed_nil (by simp [go_sem])]; exact hdq_idle _ _
  clear hK K
  try walk_nrm
  refine Goes.step rfl (fun w hr => ?_)
  replace hF := (hrl _ _) hF hr
  clear hr
  refine goes_oper_k rfl rfl (by k_ne) (fun K hK => ?_)
  go_simp
  refine hK _ _ ⟨?_, ?_⟩
  · rw [listed_nil (by simp [go_sem])]; exact hdq_idle _ _
  clear hK K
  try walk_nrm
  refine Goes.step rfl (fun w hr => ?_)
  replace hF := (hrl _ _) hF hr
  clear hr
  refine goes_oper_k rfl rfl (by k_ne) (fun K hK => ?_)
  go_simp
  refine hK _ _ ⟨?_, ?_⟩
  · rw [listed_nil (by simp [go_sem])]; exact hdq_idle _ _
  clear hK K
  try walk_nrm
  refine Goes.mono (n := 10 + kc + 3) ?_ (by omega)
  refine Goes.call (hdq_terms (Cx0 Sh) Vn) (f := 7) (args := #[.tmp 8, .tmp 10]) (ats := #[22, 3]) rfl rfl (by k_ne) rfl (by simp only [List.map_toArray, List.map_cons, List.map_nil, Act.eval]; exact hkc _ hF) (fun r w hv => ?_)
  clear hF hkc
  obtain ⟨hF, hR⟩ := hv
  try walk_nrm
  refine Goes.stop (fun w hr => ⟨r, _, ⟨?_, ?_, ?_⟩, rfl, hrl _ _ hF hr, hRs _ _ _ hR hr⟩) <;> rfl
set_option maxRecDepth 100000 in
set_option maxHeartbeats 2000000 in
theorem l_few {ap al : Option Addr} {np pcap n lcap kc : Nat} {b : Bool} (w : World) (hF : Q w) (T : Array Value) (hT : T.size = 36) (h1 : T[1]? = some (.slice al n lcap)) (h11 : T[11]? = some (.slice ap np pcap)) (hkc : ∀ w, Q w → CallsC Try.prog mn (Ext Vn) (HDq (Cx0 Sh)) 8 #[.slice ap np pcap, .slice al n lcap] kc w (fun r w' => r = .bool b ∧ Q w')) :
    Goes Try.prog mn (Ext Vn) (HDq (Cx0 Sh)) (fun g w => ∃ T', (T'.size = 36 ∧ T'[1]? = some (.slice al n lcap) ∧ T'[5]? = some (.slice ap np pcap) ∧ T'[15]? = some (.bool (!b))) ∧ g = G (fLw T' (.inRegion opsL2 [] :: .code condL :: .code restL :: [])) [] ∧ Q w) (10 + kc + 3 + 20)
      (G (fLw T (.inRegion opsL1 [4] :: .code (rt (rt bodyL)) :: [])) []) w := by
  obtain ⟨v0, v1, v2, v3, v4, v5, v6, v7, v8, v9, v10, v11, v12, v13, v14, v15, v16, v17, v18, v19, v20, v21, v22, v23, v24, v25, v26, v27, v28, v29, v30, v31, v32, v33, v34, v35, rfl⟩ := arr36 T hT
  simp only [List.getElem?_toArray, List.getElem?_cons_zero, List.getElem?_cons_succ, Option.some.injEq] at h1 h11
  subst h1
  subst h11
  simp only [fLw, fAw, opsL1, opsL2, opsL3, opsL4, opsL5, condL, restL, bodyL, body9, yesC, inner, rt, lf, opsOf, Try.f3, Option.getD_some]
  refine Goes.step rfl (fun w hr => ?_)
  replace hF := (hrl _ _) hF hr
  clear hr
  refine goes_oper_k rfl rfl (by k_ne) (fun K hK => ?_)
  go_simp
  refine hK _ _ ⟨?_, ?_⟩
  · rw [listed_nil (by simp [go_sem])]; exact hdq_idle _ _
  clear hK K
  try walk_nrm
  refine Goes.step rfl (fun w hr => ?_)
  replace hF := (hrl _ _) hF hr
  clear hr
  rw [stepG_region_end]
  simp only [goes_go]
  refine ⟨hdq_idle _ _, ?_⟩
  refine Goes.step rfl (fun w hr => ?_)
  replace hF := (hrl _ _) hF hr
  clear hr
  rw [stepG_seq]
  simp only [goes_go]
  refine ⟨hdq_idle _ _, ?_⟩
  refine Goes.step rfl (fun w hr => ?_)
  replace hF := (hrl _ _) hF hr
  clear hr
  rw [stepG_seq]
  simp only [goes_go]
  refine ⟨hdq_idle _ _, ?_⟩
  refine Goes.step rfl (fun w hr => ?_)
  replace hF := (hrl _ _) hF hr
  clear hr
  rw [stepG_region]
  simp only [goes_go, List.size_toArray, List.length_cons, List.length_nil, Nat.reduceAdd, Nat.zero_add, List.range, List.range.loop]
  refine ⟨hdq_idle _ _, ?_⟩
  refine Goes.step rfl (fun w hr => ?_)
  replace hF := (hrl _ _) hF hr
  clear hr
  refine goes_oper_k rfl rfl (by k_ne) (fun K hK => ?_)
  go_simp
  refine hK _ _ ⟨?_, ?_⟩
  · rw [listed_nil (by simp [go_sem])]; exact hdq_idle _ _
  clear hK K
  try walk_nrm
  refine Goes.step rfl (fun w hr => ?_)
  replace hF := (hrl _ _) hF hr
  clear hr
  refine goes_oper_k rfl rfl (by k_ne) (fun K hK => ?_)
  go_simp
  refine hK _ _ ⟨?_, ?_⟩
  · rw [listed_nil (by simp [go_sem])]; exact hdq_idle _ _
  clear hK K
  try walk_nrm
  refine Goes.mono (n := 10 + kc + 3) ?_ (by omega)
  refine Goes.call (hdq_terms (Cx0 Sh) Vn) (f := 8) (args := #[.tmp 12, .tmp 13]) (ats := #[24, 23]) rfl rfl (by k_ne) rfl (by simp only [List.map_toArray, List.map_cons, List.map_nil, Act.eval]; exact hkc _ hF) (fun r w hv => ?_)
  clear hF hkc
  obtain ⟨rfl, hF⟩ := hv
  try walk_nrm
  refine Goes.step rfl (fun w hr => ?_)
  replace hF := (hrl _ _) hF hr
  clear hr
  refine goes_oper_k rfl rfl (by k_ne) (fun K hK => ?_)
  go_simp
  refine hK _ _ ⟨?_, ?_⟩
  · rw [listed_nil (by simp [go_sem])]; exact hdq_idle _ _
  clear hK K
  try walk_nrm
  refine Goes.stop (fun w hr => ⟨_, ⟨?_, ?_, ?_, ?_⟩, rfl, hrl _ _ hF hr⟩) <;> rfl
set_option maxRecDepth 100000 in
set_option maxHeartbeats 2000000 in
theorem l_no {al : Option Addr} {n lcap : Nat} (w : World) (hF : Q w) (T : Array Value) (hT : T.size = 36) (h15 : T[15]? = some (.bool true)) :
    Goes Try.prog mn (Ext Vn) (HDq (Cx0 Sh)) (fun g w => ∃ T', T'.size = 36 ∧ g = G (fAw und22 [.code body9]) (fLw T' (.inRegion opsL3 (0 :: [1]) :: .code .ret :: .code restL :: []) :: []) ∧ Q w) 20
      (G (fLw T (.inRegion opsL2 [] :: .code condL :: .code restL :: [])) []) w := by
  obtain ⟨v0, v1, v2, v3, v4, v5, v6, v7, v8, v9, v10, v11, v12, v13, v14, v15, v16, v17, v18, v19, v20, v21, v22, v23, v24, v25, v26, v27, v28, v29, v30, v31, v32, v33, v34, v35, rfl⟩ := arr36 T hT
  simp only [List.getElem?_toArray, List.getElem?_cons_zero, List.getElem?_cons_succ, Option.some.injEq] at h15
  subst h15
  simp only [fLw, fAw, opsL1, opsL2, opsL3, opsL4, opsL5, condL, restL, bodyL, body9, yesC, inner, rt, lf, opsOf, Try.f3, Option.getD_some]
  refine Goes.step rfl (fun w hr => ?_)
  replace hF := (hrl _ _) hF hr
  clear hr
  rw [stepG_region_end]
  simp only [goes_go]
  refine ⟨hdq_idle _ _, ?_⟩
  refine Goes.step rfl (fun w hr => ?_)
  replace hF := (hrl _ _) hF hr
  clear hr
  rw [stepG_cond (t := true) (by first | rfl | (simp [Act.eval]; omega))]
  simp only [goes_go, if_true, if_false, Bool.false_eq_true, ↓reduceIte]
  refine ⟨hdq_idle _ _, ?_⟩
  refine Goes.step rfl (fun w hr => ?_)
  replace hF := (hrl _ _) hF hr
  clear hr
  rw [stepG_seq]
  simp only [goes_go]
  refine ⟨hdq_idle _ _, ?_⟩
  refine Goes.step rfl (fun w hr => ?_)
  replace hF := (hrl _ _) hF hr
  clear hr
  rw [stepG_region]
  simp only [goes_go, List.size_toArray, List.length_cons, List.length_nil, Nat.reduceAdd, Nat.zero_add, List.range, List.range.loop]
  refine ⟨hdq_idle _ _, ?_⟩
  refine Goes.step rfl (fun w hr => ?_)
  replace hF := (hrl _ _) hF hr
  clear hr
  refine goes_call rfl rfl (by k_ne) rfl Try.func9 rfl rfl ⟨hdq_idle _ _, ?_⟩
  refine Goes.stop (fun w hr => ⟨#[v0, v1, v2, v3, v4, v5, v6, v7, v8, v9, v10, v11, v12, v13, v14, .bool true, v16, v17, v18, v19, v20, v21, v22, v23, v24, v25, v26, v27, v28, v29, v30, v31, v32, v33, v34, v35], ?_, ?_, hrl _ _ hF hr⟩)
  · rfl
  · simp only [fAw, und22, body9, Try.ntmps9, List.map_toArray, List.map_cons, List.map_nil, Act.eval, List.size_toArray, List.length_cons, List.length_nil, Nat.reduceAdd, Nat.reduceSub, Nat.sub_zero, Array.replicate_succ, Array.replicate_zero, List.push_toArray, List.append_toArray, List.nil_append, List.cons_append]
    rfl
set_option maxRecDepth 100000 in
set_option maxHeartbeats 2000000 in
theorem l_yes {ap al : Option Addr} {np pcap n lcap kc : Nat} {Rv : Value → World → Prop} (w : World) (hF : Q w) (T : Array Value) (hT : T.size = 36) (h1 : T[1]? = some (.slice al n lcap)) (h5 : T[5]? = some (.slice ap np pcap)) (h15 : T[15]? = some (.bool false)) (hkc : ∀ w, Q w → CallsC Try.prog mn (Ext Vn) (HDq (Cx0 Sh)) 11 #[.slice al n lcap] kc w (fun r w' => Q w' ∧ Rv r w')) (hRs : ∀ r w w', Rv r w → Ext Vn w w' → Rv r w') :
    Goes Try.prog mn (Ext Vn) (HDq (Cx0 Sh)) (fun g w => ∃ r T', (T'.size = 36 ∧ T'[1]? = some (.slice al n lcap) ∧ T'[5]? = some (.slice ap np pcap)) ∧ g = G (fRun (entryT (.slice ap np pcap) r) [.code bodyM]) (fLw T' (.inRegion opsL4 (3 :: [4, 5, 6, 7, 8]) :: .code (rt restL) :: []) :: []) ∧ Q w ∧ Rv r w) (10 + kc + 3 + 20)
      (G (fLw T (.inRegion opsL2 [] :: .code condL :: .code restL :: [])) []) w := by
  obtain ⟨v0, v1, v2, v3, v4, v5, v6, v7, v8, v9, v10, v11, v12, v13, v14, v15, v16, v17, v18, v19, v20, v21, v22, v23, v24, v25, v26, v27, v28, v29, v30, v31, v32, v33, v34, v35, rfl⟩ := arr36 T hT
  simp only [List.getElem?_toArray, List.getElem?_cons_zero, List.getElem?_cons_succ, Option.some.injEq] at h1 h5 h15
  subst h1
  subst h5
  subst h15
  simp only [fLw, fAw, opsL1, opsL2, opsL3, opsL4, opsL5, condL, restL, bodyL, body9, yesC, inner, rt, lf, opsOf, Try.f3, Option.getD_some]
  refine Goes.step rfl (fun w hr => ?_)
  replace hF := (hrl _ _) hF hr
  clear hr
  rw [stepG_region_end]
  simp only [goes_go]
  refine ⟨hdq_idle _ _, ?_⟩
  refine Goes.step rfl (fun w hr => ?_)
  replace hF := (hrl _ _) hF hr
  clear hr
  rw [stepG_cond (t := false) (by first | rfl | (simp [Act.eval]; omega))]
  simp only [goes_go, if_true, if_false, Bool.false_eq_true, ↓reduceIte]
  refine ⟨hdq_idle _ _, ?_⟩
  refine Goes.step rfl (fun w hr => ?_)
  replace hF := (hrl _ _) hF hr
  clear hr
  rw [stepG_skip]
  simp only [goes_go]
  refine ⟨hdq_idle _ _, ?_⟩
  refine Goes.step rfl (fun w hr => ?_)
  replace hF := (hrl _ _) hF hr
  clear hr
  rw [stepG_seq]
  simp only [goes_go]
  refine ⟨hdq_idle _ _, ?_⟩
  refine Goes.step rfl (fun w hr => ?_)
  replace hF := (hrl _ _) hF hr
  clear hr
  rw [stepG_region]
  simp only [goes_go, List.size_toArray, List.length_cons, List.length_nil, Nat.reduceAdd, Nat.zero_add, List.range, List.range.loop]
  refine ⟨hdq_idle _ _, ?_⟩
  refine Goes.step rfl (fun w hr => ?_)
  replace hF := (hrl _ _) hF hr
  clear hr
  refine goes_oper_k rfl rfl (by k_ne) (fun K hK => ?_)
  go_simp
  refine hK _ _ ⟨?_, ?_⟩
  · rw [listed_nil (by simp [go_sem])]; exact hdq_idle _ _
  clear hK K
  try walk_nrm
  refine Goes.step rfl (fun w hr => ?_)
  replace hF := (hrl _ _) hF hr
  clear hr
  refine goes_oper_k rfl rfl (by k_ne) (fun K hK => ?_)
  go_simp
  refine hK _ _ ⟨?_, ?_⟩
  · rw [listed_nil (by simp [go_sem])]; exact hdq_idle _ _
  clear hK K
  try walk_nrm
  refine Goes.mono (n := 10 + kc + 3) ?_ (by omega)
  refine Goes.call (hdq_terms (Cx0 Sh) Vn) (f := 11) (args := #[.tmp 19]) (ats := #[23]) rfl rfl (by k_ne) rfl (by simp only [List.map_toArray, List.map_cons, List.map_nil, Act.eval]; exact hkc _ hF) (fun r w hv => ?_)
  clear hF hkc
  obtain ⟨hF, hR⟩ := hv
  try walk_nrm
  refine Goes.step rfl (fun w hr => ?_)
  replace hF := hrl _ _ hF hr
  replace hR := hRs _ _ _ hR hr
  clear hr
  refine goes_call rfl rfl (by k_ne) rfl Try.func10 rfl rfl ⟨hdq_idle _ _, ?_⟩
  refine Goes.stop (fun w hr => ⟨r, #[v0, .slice al n lcap, v2, v3, v4, .slice ap np pcap, v6, v7, v8, v9, v10, v11, v12, v13, v14, .bool false, v16, v17, .slice ap np pcap, .slice al n lcap, r, v21, v22, v23, v24, v25, v26, v27, v28, v29, v30, v31, v32, v33, v34, v35], ⟨?_, ?_, ?_⟩, ?_, hrl _ _ hF hr, hRs _ _ _ hR hr⟩)
  · rfl
  · rfl
  · rfl
  · simp only [fRun, entryT, bodyM, Try.ntmps10, List.map_toArray, List.map_cons, List.map_nil, Act.eval, List.size_toArray, List.length_cons, List.length_nil, Nat.reduceAdd, Nat.reduceSub, Array.replicate_succ, Array.replicate_zero, List.push_toArray, List.append_toArray, List.nil_append, List.cons_append]
    rfl
set_option maxRecDepth 100000 in
set_option maxHeartbeats 2000000 in
theorem l_mid {u : Value} {ap al : Option Addr} {np pcap n lcap : Nat} (w : World) (hF : Q w) (T : Array Value) (hT : T.size = 36) (h1 : T[1]? = some (.slice al n lcap)) (h5 : T[5]? = some (.slice ap np pcap)) :
    Goes Try.prog mn (Ext Vn) (HDq (Cx0 Sh)) (fun g w => ∃ T', (T'.size = 36 ∧ T'[1]? = some (.slice al n lcap) ∧ T'[5]? = some (.slice ap np pcap) ∧ T'[6]? = some u ∧ T'[7]? = some (.int .i64 0)) ∧ g = G (fAw und22 [.code body9]) (fLw T' (.inRegion opsL5 (0 :: [1, 2, 3, 4, 5, 6, 7, 8, 9, 10, 11, 12]) :: .code .ret :: []) :: []) ∧ Q w) 20
      (G ((base 3).at (Act.put ⟨T, []⟩ ((opsL4[3]?).bind (·.dst)) (.tuple #[u, .int .i64 0])) (.inRegion opsL4 [4, 5, 6, 7, 8] :: .code (rt restL) :: [])) []) w := by
  obtain ⟨v0, v1, v2, v3, v4, v5, v6, v7, v8, v9, v10, v11, v12, v13, v14, v15, v16, v17, v18, v19, v20, v21, v22, v23, v24, v25, v26, v27, v28, v29, v30, v31, v32, v33, v34, v35, rfl⟩ := arr36 T hT
  simp only [List.getElem?_toArray, List.getElem?_cons_zero, List.getElem?_cons_succ, Option.some.injEq] at h1 h5
  subst h1
  subst h5
  simp only [fLw, fAw, opsL1, opsL2, opsL3, opsL4, opsL5, condL, restL, bodyL, body9, yesC, inner, rt, lf, opsOf, Try.f3, Option.getD_some]
  walk_nrm
  refine Goes.step rfl (fun w hr => ?_)
  replace hF := (hrl _ _) hF hr
  clear hr
  refine goes_oper_k rfl rfl (by k_ne) (fun K hK => ?_)
  go_simp
  refine hK _ _ ⟨?_, ?_⟩
  · rw [listed_nil (by simp [go_sem])]; exact hdq_idle _ _
  clear hK K
  try walk_nrm
  refine Goes.step rfl (fun w hr => ?_)
  replace hF := (hrl _ _) hF hr
  clear hr
  refine goes_oper_k rfl rfl (by k_ne) (fun K hK => ?_)
  go_simp
  refine hK _ _ ⟨?_, ?_⟩
  · rw [listed_nil (by simp [go_sem])]; exact hdq_idle _ _
  clear hK K
  try walk_nrm
  refine Goes.step rfl (fun w hr => ?_)
  replace hF := (hrl _ _) hF hr
  clear hr
  refine goes_oper_k rfl rfl (by k_ne) (fun K hK => ?_)
  go_simp
  refine hK _ _ ⟨?_, ?_⟩
  · rw [listed_nil (by simp [go_sem])]; exact hdq_idle _ _
  clear hK K
  try walk_nrm
  refine Goes.step rfl (fun w hr => ?_)
  replace hF := (hrl _ _) hF hr
  clear hr
  refine goes_oper_k rfl rfl (by k_ne) (fun K hK => ?_)
  go_simp
  refine hK _ _ ⟨?_, ?_⟩
  · rw [listed_nil (by simp [go_sem])]; exact hdq_idle _ _
  clear hK K
  try walk_nrm
  refine Goes.step rfl (fun w hr => ?_)
  replace hF := (hrl _ _) hF hr
  clear hr
  refine goes_oper_k rfl rfl (by k_ne) (fun K hK => ?_)
  go_simp
  refine hK _ _ ⟨?_, ?_⟩
  · rw [listed_nil (by simp [go_sem])]; exact hdq_idle _ _
  clear hK K
  try walk_nrm
  refine Goes.step rfl (fun w hr => ?_)
  replace hF := (hrl _ _) hF hr
  clear hr
  rw [stepG_region_end]
  simp only [goes_go]
  refine ⟨hdq_idle _ _, ?_⟩
  refine Goes.step rfl (fun w hr => ?_)
  replace hF := (hrl _ _) hF hr
  clear hr
  rw [stepG_seq]
  simp only [goes_go]
  refine ⟨hdq_idle _ _, ?_⟩
  refine Goes.step rfl (fun w hr => ?_)
  replace hF := (hrl _ _) hF hr
  clear hr
  rw [stepG_region]
  simp only [goes_go, List.size_toArray, List.length_cons, List.length_nil, Nat.reduceAdd, Nat.zero_add, List.range, List.range.loop]
  refine ⟨hdq_idle _ _, ?_⟩
  refine Goes.step rfl (fun w hr => ?_)
  replace hF := (hrl _ _) hF hr
  clear hr
  refine goes_call rfl rfl (by k_ne) rfl Try.func9 rfl rfl ⟨hdq_idle _ _, ?_⟩
  refine Goes.stop (fun w hr => ⟨#[v0, .slice al n lcap, v2, v3, v4, .slice ap np pcap, u, .int .i64 0, v8, v9, v10, v11, v12, v13, v14, v15, v16, .tuple #[u, .int .i64 0], v18, v19, v20, .tuple #[u, .int .i64 0], u, .int .i64 0, v24, v25, v26, v27, v28, v29, v30, v31, v32, v33, v34, v35], ⟨?_, ?_, ?_, ?_, ?_⟩, ?_, hrl _ _ hF hr⟩)
  · rfl
  · rfl
  · rfl
  · rfl
  · rfl
  · simp only [fAw, und22, body9, Try.ntmps9, List.map_toArray, List.map_cons, List.map_nil, Act.eval, List.size_toArray, List.length_cons, List.length_nil, Nat.reduceAdd, Nat.reduceSub, Nat.sub_zero, Array.replicate_succ, Array.replicate_zero, List.push_toArray, List.append_toArray, List.nil_append, List.cons_append]
    rfl
set_option maxRecDepth 100000 in
set_option maxHeartbeats 2000000 in
theorem l_ref {u : Value} {ap al : Option Addr} {np pcap n lcap kc : Nat} {Rv : Value → World → Prop} (w : World) (hF : Q w) (T : Array Value) (hT : T.size = 36) (h1 : T[1]? = some (.slice al n lcap)) (h5 : T[5]? = some (.slice ap np pcap)) (h6 : T[6]? = some u) (h7 : T[7]? = some (.int .i64 0)) (hkc : ∀ w, Q w → CallsC Try.prog mn (Ext Vn) (HDq (Cx0 Sh)) 13 #[.slice ap np pcap, .slice al n lcap] kc w (fun r w' => Q w' ∧ Rv r w')) (hRs : ∀ r w w', Rv r w → Ext Vn w w' → Rv r w') :
    Goes Try.prog mn (Ext Vn) (HDq (Cx0 Sh)) (fun g w => ∃ r T', (T'.size = 36 ∧ T'[29]? = some (.bool true) ∧ T'[30]? = some u ∧ T'[33]? = some r) ∧ g = G (fLw T' (.inRegion opsL5 [10, 11, 12] :: .code .ret :: [])) [] ∧ Q w ∧ Rv r w) (10 + kc + 3 + 20)
      (G ((base 3).at (Act.put ⟨T, []⟩ ((opsL5[0]?).bind (·.dst)) (.bool true)) (.inRegion opsL5 [1, 2, 3, 4, 5, 6, 7, 8, 9, 10, 11, 12] :: .code .ret :: [])) []) w := by
  obtain ⟨v0, v1, v2, v3, v4, v5, v6, v7, v8, v9, v10, v11, v12, v13, v14, v15, v16, v17, v18, v19, v20, v21, v22, v23, v24, v25, v26, v27, v28, v29, v30, v31, v32, v33, v34, v35, rfl⟩ := arr36 T hT
  simp only [List.getElem?_toArray, List.getElem?_cons_zero, List.getElem?_cons_succ, Option.some.injEq] at h1 h5 h6 h7
  subst h1
  subst h5
  subst h6
  subst h7
  simp only [fLw, fAw, opsL1, opsL2, opsL3, opsL4, opsL5, condL, restL, bodyL, body9, yesC, inner, rt, lf, opsOf, Try.f3, Option.getD_some]
  walk_nrm
  refine Goes.step rfl (fun w hr => ?_)
  replace hF := (hrl _ _) hF hr
  clear hr
  refine goes_oper_k rfl rfl (by k_ne) (fun K hK => ?_)
  go_simp
  refine hK _ _ ⟨?_, ?_⟩
  · rw [listed_nil (by simp [go_sem])]; exact hdq_idle _ _
  clear hK K
  try walk_nrm
  refine Goes.step rfl (fun w hr => ?_)
  replace hF := (hrl _ _) hF hr
  clear hr
  refine goes_oper_k rfl rfl (by k_ne) (fun K hK => ?_)
  go_simp
  refine hK _ _ ⟨?_, ?_⟩
  · rw [listed_nil (by simp [go_sem])]; exact hdq_idle _ _
  clear hK K
  try walk_nrm
  refine Goes.step rfl (fun w hr => ?_)
  replace hF := (hrl _ _) hF hr
  clear hr
  refine goes_oper_k rfl rfl (by k_ne) (fun K hK => ?_)
  go_simp
  refine hK _ _ ⟨?_, ?_⟩
  · rw [listed_nil (by simp [go_sem, *])]; exact hdq_idle _ _
  clear hK K
  try walk_nrm
  refine Goes.step rfl (fun w hr => ?_)
  replace hF := (hrl _ _) hF hr
  clear hr
  refine goes_oper_k rfl rfl (by k_ne) (fun K hK => ?_)
  go_simp
  refine hK _ _ ⟨?_, ?_⟩
  · rw [listed_nil (by simp [go_sem])]; exact hdq_idle _ _
  clear hK K
  try walk_nrm
  refine Goes.step rfl (fun w hr => ?_)
  replace hF := (hrl _ _) hF hr
  clear hr
  refine goes_oper_k rfl rfl (by k_ne) (fun K hK => ?_)
  go_simp
  refine hK _ _ ⟨?_, ?_⟩
  · rw [listed_nil (by simp [go_sem])]; exact hdq_idle _ _
  clear hK K
  try walk_nrm
  refine Goes.step rfl (fun w hr => ?_)
  replace hF := (hrl _ _) hF hr
  clear hr
  refine goes_oper_k rfl rfl (by k_ne) (fun K hK => ?_)
  go_simp
  refine hK _ _ ⟨?_, ?_⟩
  · rw [listed_nil (by simp [go_sem])]; exact hdq_idle _ _
  clear hK K
  try walk_nrm
  refine Goes.step rfl (fun w hr => ?_)
  replace hF := (hrl _ _) hF hr
  clear hr
  refine goes_oper_k rfl rfl (by k_ne) (fun K hK => ?_)
  go_simp
  refine hK _ _ ⟨?_, ?_⟩
  · rw [listed_nil (by simp [go_sem])]; exact hdq_idle _ _
  clear hK K
  try walk_nrm
  refine Goes.step rfl (fun w hr => ?_)
  replace hF := (hrl _ _) hF hr
  clear hr
  refine goes_oper_k rfl rfl (by k_ne) (fun K hK => ?_)
  go_simp
  refine hK _ _ ⟨?_, ?_⟩
  · rw [listed_nil (by simp [go_sem])]; exact hdq_idle _ _
  clear hK K
  try walk_nrm
  refine Goes.mono (n := 10 + kc + 3) ?_ (by omega)
  refine Goes.call (hdq_terms (Cx0 Sh) Vn) (f := 13) (args := #[.tmp 31, .tmp 32]) (ats := #[24, 23]) rfl rfl (by k_ne) rfl (by simp only [List.map_toArray, List.map_cons, List.map_nil, Act.eval]; exact hkc _ hF) (fun r w hv => ?_)
  clear hF hkc
  obtain ⟨hF, hR⟩ := hv
  try walk_nrm
  refine Goes.stop (fun w hr => ⟨r, _, ⟨?_, ?_, ?_, ?_⟩, rfl, hrl _ _ hF hr, hRs _ _ _ hR hr⟩) <;> rfl
set_option maxRecDepth 100000 in
set_option maxHeartbeats 2000000 in
theorem l_out {a a' : Option Addr} {n n' c c' kc : Nat} {b : Bool} (w : World) (hF : Q w) (T : Array Value) (hT : T.size = 36) (h29 : T[29]? = some (.bool true)) (h30 : T[30]? = some (.slice a n c)) (h33 : T[33]? = some (.slice a' n' c')) (hkc : ∀ w, Q w → CallsC Try.prog mn (Ext Vn) (HDq (Cx0 Sh)) 12 #[.slice a n c, .slice a' n' c'] kc w (fun r w' => r = .bool b ∧ Q w')) :
    Goes Try.prog mn (Ext Vn) (HDq (Cx0 Sh)) (fun g w => ∃ T' k, T'[4]? = some (.bool b) ∧ g = G { fLw T' k with mode := .returning } [] ∧ Q w) (10 + kc + 3)
      (G (fLw T (.inRegion opsL5 [10, 11, 12] :: .code .ret :: [])) []) w := by
  obtain ⟨v0, v1, v2, v3, v4, v5, v6, v7, v8, v9, v10, v11, v12, v13, v14, v15, v16, v17, v18, v19, v20, v21, v22, v23, v24, v25, v26, v27, v28, v29, v30, v31, v32, v33, v34, v35, rfl⟩ := arr36 T hT
  simp only [List.getElem?_toArray, List.getElem?_cons_zero, List.getElem?_cons_succ, Option.some.injEq] at h29 h30 h33
  subst h29
  subst h30
  subst h33
  simp only [fLw, fAw, opsL1, opsL2, opsL3, opsL4, opsL5, condL, restL, bodyL, body9, yesC, inner, rt, lf, opsOf, Try.f3, Option.getD_some]
  refine Goes.call (hdq_terms (Cx0 Sh) Vn) (f := 12) (args := #[.tmp 30, .tmp 33]) (ats := #[28, 35]) rfl rfl (by k_ne) rfl (by simp only [List.map_toArray, List.map_cons, List.map_nil, Act.eval]; exact hkc _ hF) (fun r w hv => ?_)
  clear hF hkc
  obtain ⟨rfl, hF⟩ := hv
  try walk_nrm
  refine Goes.step rfl (fun w hr => ?_)
  replace hF := (hrl _ _) hF hr
  clear hr
  refine goes_oper_k rfl rfl (by k_ne) (fun K hK => ?_)
  go_simp
  refine hK _ _ ⟨?_, ?_⟩
  · rw [listed_nil (by simp [go_sem])]; exact hdq_idle _ _
  clear hK K
  try walk_nrm
  refine Goes.step rfl (fun w hr => ?_)
  replace hF := (hrl _ _) hF hr
  clear hr
  refine goes_oper_k rfl rfl (by k_ne) (fun K hK => ?_)
  go_simp
  refine hK _ _ ⟨?_, ?_⟩
  · rw [listed_nil (by simp [go_sem])]; exact hdq_idle _ _
  clear hK K
  try walk_nrm
  refine Goes.step rfl (fun w hr => ?_)
  replace hF := (hrl _ _) hF hr
  clear hr
  rw [stepG_region_end]
  simp only [goes_go]
  refine ⟨hdq_idle _ _, ?_⟩
  refine Goes.step rfl (fun w hr => ?_)
  replace hF := (hrl _ _) hF hr
  clear hr
  rw [stepG_ret']
  simp only [goes_go]
  refine ⟨hdq_idle _ _, ?_⟩
  refine Goes.stop (fun w hr => ⟨_, _, ?_, rfl, hrl _ _ hF hr⟩)
  rfl
set_option maxRecDepth 100000 in
set_option maxHeartbeats 2000000 in
theorem l_out0 (w : World) (hF : Q w) (T : Array Value) (hT : T.size = 36) :
    Goes Try.prog mn (Ext Vn) (HDq (Cx0 Sh)) (fun g w => ∃ T' k, T'[4]? = some (.bool true) ∧ g = G { fLw T' k with mode := .returning } [] ∧ Q w) 10
      (G ((base 3).at (Act.put ⟨T, []⟩ ((opsL3[0]?).bind (·.dst)) (.bool true)) (.inRegion opsL3 [1] :: .code .ret :: .code restL :: [])) []) w := by
  obtain ⟨v0, v1, v2, v3, v4, v5, v6, v7, v8, v9, v10, v11, v12, v13, v14, v15, v16, v17, v18, v19, v20, v21, v22, v23, v24, v25, v26, v27, v28, v29, v30, v31, v32, v33, v34, v35, rfl⟩ := arr36 T hT
  simp only [fLw, fAw, opsL1, opsL2, opsL3, opsL4, opsL5, condL, restL, bodyL, body9, yesC, inner, rt, lf, opsOf, Try.f3, Option.getD_some]
  walk_nrm
  refine Goes.step rfl (fun w hr => ?_)
  replace hF := (hrl _ _) hF hr
  clear hr
  refine goes_oper_k rfl rfl (by k_ne) (fun K hK => ?_)
  go_simp
  refine hK _ _ ⟨?_, ?_⟩
  · rw [listed_nil (by simp [go_sem])]; exact hdq_idle _ _
  clear hK K
  try walk_nrm
  refine Goes.step rfl (fun w hr => ?_)
  replace hF := (hrl _ _) hF hr
  clear hr
  rw [stepG_region_end]
  simp only [goes_go]
  refine ⟨hdq_idle _ _, ?_⟩
  refine Goes.step rfl (fun w hr => ?_)
  replace hF := (hrl _ _) hF hr
  clear hr
  rw [stepG_ret']
  simp only [goes_go]
  refine ⟨hdq_idle _ _, ?_⟩
  refine Goes.stop (fun w hr => ⟨_, _, ?_, rfl, hrl _ _ hF hr⟩)
  rfl
end
end
end Go.Proofs.Ytggfcdhkgldbfaa
