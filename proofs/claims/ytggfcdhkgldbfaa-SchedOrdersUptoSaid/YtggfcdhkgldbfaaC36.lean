/-
  PARTS of a claim, merged by segs.py: CwOrd.
-/
import Derived.Test.YtggfcdhkgldbfaaC35
namespace Go.Proofs.Ytggfcdhkgldbfaa
set_option linter.unusedSimpArgs false
set_option linter.unusedVariables false

/-! ### CwOrd -/
section
set_option linter.unusedSimpArgs false
open Go Go.Conc Go.RowKit Go.ConcR.Gen Cw

noncomputable def bodyO : Code := Try.f4.body.getD .skip
noncomputable def restO : Code := rt (rt (rt bodyO))
noncomputable def opsO1 : Array Oper := opsOf (lf (rt bodyO))
noncomputable def opsO2 : Array Oper := opsOf (lf (lf (rt (rt bodyO))))
noncomputable def condO : Code := rt (lf (rt (rt bodyO)))
noncomputable def opsO3 : Array Oper := opsOf (lf (yesC condO))
noncomputable def opsO4 : Array Oper := opsOf (lf restO)
noncomputable def opsO5 : Array Oper := opsOf (lf (rt restO))
noncomputable def loopsO : Code := rt (rt (rt (rt (rt restO))))
noncomputable def lastO : Code := rt (rt (rt loopsO))
noncomputable def opsO9 : Array Oper := opsOf (lf lastO)
abbrev fOr (T : Array Value) (k : List Item) : Frame := (base 4).at ⟨T, []⟩ k
section
variable {Sh : Loc → Prop} {mn : Bool} {Q : World → Prop} (hrl : ∀ w w', Q w → Ext Vn w w' → Q w')
include hrl
set_option maxRecDepth 100000 in
set_option maxHeartbeats 4000000 in
theorem o_valid {v : Value} {al : Option Addr} {n lcap kc : Nat} {Rv : Value → World → Prop} (w : World) (hF : Q w) (hkc : ∀ w, Q w → CallsC Try.prog mn (Ext Vn) (HDq (Cx0 Sh)) 7 #[v, .int .i64 n] kc w (fun r w' => Q w' ∧ Rv r w')) (hRs : ∀ r w w', Rv r w → Ext Vn w w' → Rv r w') :
    Goes Try.prog mn (Ext Vn) (HDq (Cx0 Sh)) (fun g w => ∃ r T', (T'.size = 159 ∧ T'[1]? = some (.slice al n lcap) ∧ T'[23]? = some r) ∧ g = G (fOr T' (.inRegion opsO1 [4] :: .code (rt (rt bodyO)) :: [])) [] ∧ Q w ∧ Rv r w) (10 + kc + 3 + 20)
      (G (fOr #[v, .slice al n lcap, undef, undef, undef, undef, undef, undef, undef, undef, undef, undef, undef, undef, undef, undef, undef, undef, undef, undef, undef, undef, undef, undef, undef, undef, undef, undef, undef, undef, undef, undef, undef, undef, undef, undef, undef, undef, undef, undef, undef, undef, undef, undef, undef, undef, undef, undef, undef, undef, undef, undef, undef, undef, undef, undef, undef, undef, undef, undef, undef, undef, undef, undef, undef, undef, undef, undef, undef, undef, undef, undef, undef, undef, undef, undef, undef, undef, undef, undef, undef, undef, undef, undef, undef, undef, undef, undef, undef, undef, undef, undef, undef, undef, undef, undef, undef, undef, undef, undef, undef, undef, undef, undef, undef, undef, undef, undef, undef, undef, undef, undef, undef, undef, undef, undef, undef, undef, undef, undef, undef, undef, undef, undef, undef, undef, undef, undef, undef, undef, undef, undef, undef, undef, undef, undef, undef, undef, undef, undef, undef, undef, undef, undef, undef, undef, undef, undef, undef, undef, undef, undef, undef, undef, undef, undef, undef, undef, undef] ([.code bodyO])) []) w := by
  simp only [fOr, fAw, opsO1, opsO2, opsO3, opsO4, opsO5, opsO9, condO, restO, bodyO, bodyM, body9, yesC, inner, rt, lf, opsOf, Try.f4, Option.getD_some]
  refine Goes.step rfl (fun w hr => ?_)
  replace hF := (hrl _ _) hF hr
  clear hr
  rw [stepG_seq]
  simp only [goes_go]
  refine ⟨hdq_idle _ _, ?_⟩
  refine Goes.step rfl (fun w hr => ?_)
  replace hF := (hrl _ _) hF hr
  clear hr
  rw [stepG_region]
  simp only [goes_go, List.size_toArray, List.length_cons, List.length_nil, Nat.reduceAdd, Nat.zero_add, List.range, List.range.loop]
  refine ⟨hdq_idle _ _, ?_⟩
  refine Goes.step rfl (fun w hr => ?_)
  replace hF := (hrl _ _) hF hr
  clear hr
  refine goes_oper_k rfl rfl (by k_ne) (fun K hK => ?_)
  go_simp
  refine hK _ _ ⟨?_, ?_⟩
  · rw [listed_nil (by simp [go_sem])]; exact hdq_idle _ _
  clear hK K
  try walk_nrm
  refine Goes.step rfl (fun w hr => ?_)
  replace hF := (hrl _ _) hF hr
  clear hr
  rw [stepG_region_end]
  simp only [goes_go]
  refine ⟨hdq_idle _ _, ?_⟩
  refine Goes.step rfl (fun w hr => ?_)
  replace hF := (hrl _ _) hF hr
  clear hr
  rw [stepG_seq]
  simp only [goes_go]
  refine ⟨hdq_idle _ _, ?_⟩
  refine Goes.step rfl (fun w hr => ?_)
  replace hF := (hrl _ _) hF hr
  clear hr
  rw [stepG_region]
  simp only [goes_go, List.size_toArray, List.length_cons, List.length_nil, Nat.reduceAdd, Nat.zero_add, List.range, List.range.loop]
  refine ⟨hdq_idle _ _, ?_⟩
  refine Goes.step rfl (fun w hr => ?_)
  replace hF := (hrl _ _) hF hr
  clear hr
  refine goes_oper_k rfl rfl (by k_ne) (fun K hK => ?_)
  go_simp
  refine hK _ _ ⟨?_, ?_⟩
  · rw [listed_nil (by simp [go_sem])]; exact hdq_idle _ _
  clear hK K
  try walk_nrm
  refine Goes.step rfl (fun w hr => ?_)
  replace hF := (hrl _ _) hF hr
  clear hr
  refine goes_oper_k rfl rfl (by k_ne) (fun K hK => ?_)
  go_simp
  refine hK _ _ ⟨?_, ?_⟩
  · rw [listed_nil (by simp [go_sem])]; exact hdq_idle _ _
  clear hK K
  try walk_nrm
  refine Goes.step rfl (fun w hr => ?_)
  replace hF := (hrl _ _) hF hr
  clear hr
  refine goes_oper_k rfl rfl (by k_ne) (fun K hK => ?_)
  go_simp
  refine hK _ _ ⟨?_, ?_⟩
  · rw [listed_nil (by simp [go_sem])]; exact hdq_idle _ _
  clear hK K
  try walk_nrm
  refine Goes.mono (n := 10 + kc + 3) ?_ (by omega)
  refine Goes.call (hdq_terms (Cx0 Sh) Vn) (f := 7) (args := #[.tmp 20, .tmp 22]) (ats := #[22, 3]) rfl rfl (by k_ne) rfl (by simp only [List.map_toArray, List.map_cons, List.map_nil, Act.eval]; exact hkc _ hF) (fun r w hv => ?_)
  clear hF hkc
  obtain ⟨hF, hR⟩ := hv
  try walk_nrm
  refine Goes.stop (fun w hr => ⟨r, _, ⟨?_, ?_, ?_⟩, rfl, hrl _ _ hF hr, hRs _ _ _ hR hr⟩) <;> rfl
set_option maxRecDepth 100000 in
set_option maxHeartbeats 4000000 in
theorem o_few {ap al : Option Addr} {np pcap n lcap kc : Nat} {b : Bool} (w : World) (hF : Q w) (T : Array Value) (hT : T.size = 159) (h1 : T[1]? = some (.slice al n lcap)) (h23 : T[23]? = some (.slice ap np pcap)) (hkc : ∀ w, Q w → CallsC Try.prog mn (Ext Vn) (HDq (Cx0 Sh)) 8 #[.slice ap np pcap, .slice al n lcap] kc w (fun r w' => r = .bool b ∧ Q w')) :
    Goes Try.prog mn (Ext Vn) (HDq (Cx0 Sh)) (fun g w => ∃ T', (T'.size = 159 ∧ T'[1]? = some (.slice al n lcap) ∧ T'[5]? = some (.slice ap np pcap) ∧ T'[27]? = some (.bool (!b))) ∧ g = G (fOr T' (.inRegion opsO2 [] :: .code condO :: .code restO :: [])) [] ∧ Q w) (10 + kc + 3 + 20)
      (G (fOr T (.inRegion opsO1 [4] :: .code (rt (rt bodyO)) :: [])) []) w := by
  rw [arrG159 T hT]
  simp only [gv_of h1, gv_of h23]
  simp only [fOr, fAw, opsO1, opsO2, opsO3, opsO4, opsO5, opsO9, condO, restO, bodyO, bodyM, body9, yesC, inner, rt, lf, opsOf, Try.f4, Option.getD_some]
  refine Goes.step rfl (fun w hr => ?_)
  replace hF := (hrl _ _) hF hr
  clear hr
  refine goes_oper_k rfl rfl (by k_ne) (fun K hK => ?_)
  go_simp
  refine hK _ _ ⟨?_, ?_⟩
  · rw [listed_nil (by simp [go_sem])]; exact hdq_idle _ _
  clear hK K
  try walk_nrm
  refine Goes.step rfl (fun w hr => ?_)
  replace hF := (hrl _ _) hF hr
  clear hr
  rw [stepG_region_end]
  simp only [goes_go]
  refine ⟨hdq_idle _ _, ?_⟩
  refine Goes.step rfl (fun w hr => ?_)
  replace hF := (hrl _ _) hF hr
  clear hr
  rw [stepG_seq]
  simp only [goes_go]
  refine ⟨hdq_idle _ _, ?_⟩
  refine Goes.step rfl (fun w hr => ?_)
  replace hF := (hrl _ _) hF hr
  clear hr
  rw [stepG_seq]
  simp only [goes_go]
  refine ⟨hdq_idle _ _, ?_⟩
  refine Goes.step rfl (fun w hr => ?_)
  replace hF := (hrl _ _) hF hr
  clear hr
  rw [stepG_region]
  simp only [goes_go, List.size_toArray, List.length_cons, List.length_nil, Nat.reduceAdd, Nat.zero_add, List.range, List.range.loop]
  refine ⟨hdq_idle _ _, ?_⟩
  refine Goes.step rfl (fun w hr => ?_)
  replace hF := (hrl _ _) hF hr
  clear hr
  refine goes_oper_k rfl rfl (by k_ne) (fun K hK => ?_)
  go_simp
  refine hK _ _ ⟨?_, ?_⟩
  · rw [listed_nil (by simp [go_sem])]; exact hdq_idle _ _
  clear hK K
  try walk_nrm
  refine Goes.step rfl (fun w hr => ?_)
  replace hF := (hrl _ _) hF hr
  clear hr
  refine goes_oper_k rfl rfl (by k_ne) (fun K hK => ?_)
  go_simp
  refine hK _ _ ⟨?_, ?_⟩
  · rw [listed_nil (by simp [go_sem])]; exact hdq_idle _ _
  clear hK K
  try walk_nrm
  refine Goes.mono (n := 10 + kc + 3) ?_ (by omega)
  refine Goes.call (hdq_terms (Cx0 Sh) Vn) (f := 8) (args := #[.tmp 24, .tmp 25]) (ats := #[24, 23]) rfl rfl (by k_ne) rfl (by simp only [List.map_toArray, List.map_cons, List.map_nil, Act.eval]; exact hkc _ hF) (fun r w hv => ?_)
  clear hF hkc
  obtain ⟨rfl, hF⟩ := hv
  try walk_nrm
  refine Goes.step rfl (fun w hr => ?_)
  replace hF := (hrl _ _) hF hr
  clear hr
  refine goes_oper_k rfl rfl (by k_ne) (fun K hK => ?_)
  go_simp
  refine hK _ _ ⟨?_, ?_⟩
  · rw [listed_nil (by simp [go_sem])]; exact hdq_idle _ _
  clear hK K
  try walk_nrm
  refine Goes.stop (fun w hr => ⟨_, ⟨?_, ?_, ?_, ?_⟩, rfl, hrl _ _ hF hr⟩) <;> rfl
set_option maxRecDepth 100000 in
set_option maxHeartbeats 4000000 in
theorem o_no (w : World) (hF : Q w) (T : Array Value) (hT : T.size = 159) (h27 : T[27]? = some (.bool true)) :
    Goes Try.prog mn (Ext Vn) (HDq (Cx0 Sh)) (fun g w => ∃ T', T'.size = 159 ∧ g = G (fAw und22 [.code body9]) (fOr T' (.inRegion opsO3 (0 :: [1]) :: .code .ret :: .code restO :: []) :: []) ∧ Q w) (20)
      (G (fOr T (.inRegion opsO2 [] :: .code condO :: .code restO :: [])) []) w := by
  rw [arrG159 T hT]
  simp only [gv_of h27]
  simp only [fOr, fAw, opsO1, opsO2, opsO3, opsO4, opsO5, opsO9, condO, restO, bodyO, bodyM, body9, yesC, inner, rt, lf, opsOf, Try.f4, Option.getD_some]
  refine Goes.step rfl (fun w hr => ?_)
  replace hF := (hrl _ _) hF hr
  clear hr
  rw [stepG_region_end]
  simp only [goes_go]
  refine ⟨hdq_idle _ _, ?_⟩
  refine Goes.step rfl (fun w hr => ?_)
  replace hF := (hrl _ _) hF hr
  clear hr
  rw [stepG_cond (t := true) (by first | rfl | (simp [Act.eval]; omega))]
  simp only [goes_go, if_true, if_false, Bool.false_eq_true, ↓reduceIte]
  refine ⟨hdq_idle _ _, ?_⟩
  refine Goes.step rfl (fun w hr => ?_)
  replace hF := (hrl _ _) hF hr
  clear hr
  rw [stepG_seq]
  simp only [goes_go]
  refine ⟨hdq_idle _ _, ?_⟩
  refine Goes.step rfl (fun w hr => ?_)
  replace hF := (hrl _ _) hF hr
  clear hr
  rw [stepG_region]
  simp only [goes_go, List.size_toArray, List.length_cons, List.length_nil, Nat.reduceAdd, Nat.zero_add, List.range, List.range.loop]
  refine ⟨hdq_idle _ _, ?_⟩
  refine Goes.step rfl (fun w hr => ?_)
  replace hF := (hrl _ _) hF hr
  clear hr
  refine goes_call rfl rfl (by k_ne) rfl Try.func9 rfl rfl ⟨hdq_idle _ _, ?_⟩
  refine Goes.stop (fun w hr => ⟨#[gv T 0, gv T 1, gv T 2, gv T 3, gv T 4, gv T 5, gv T 6, gv T 7, gv T 8, gv T 9, gv T 10, gv T 11, gv T 12, gv T 13, gv T 14, gv T 15, gv T 16, gv T 17, gv T 18, gv T 19, gv T 20, gv T 21, gv T 22, gv T 23, gv T 24, gv T 25, gv T 26, .bool true, gv T 28, gv T 29, gv T 30, gv T 31, gv T 32, gv T 33, gv T 34, gv T 35, gv T 36, gv T 37, gv T 38, gv T 39, gv T 40, gv T 41, gv T 42, gv T 43, gv T 44, gv T 45, gv T 46, gv T 47, gv T 48, gv T 49, gv T 50, gv T 51, gv T 52, gv T 53, gv T 54, gv T 55, gv T 56, gv T 57, gv T 58, gv T 59, gv T 60, gv T 61, gv T 62, gv T 63, gv T 64, gv T 65, gv T 66, gv T 67, gv T 68, gv T 69, gv T 70, gv T 71, gv T 72, gv T 73, gv T 74, gv T 75, gv T 76, gv T 77, gv T 78, gv T 79, gv T 80, gv T 81, gv T 82, gv T 83, gv T 84, gv T 85, gv T 86, gv T 87, gv T 88, gv T 89, gv T 90, gv T 91, gv T 92, gv T 93, gv T 94, gv T 95, gv T 96, gv T 97, gv T 98, gv T 99, gv T 100, gv T 101, gv T 102, gv T 103, gv T 104, gv T 105, gv T 106, gv T 107, gv T 108, gv T 109, gv T 110, gv T 111, gv T 112, gv T 113, gv T 114, gv T 115, gv T 116, gv T 117, gv T 118, gv T 119, gv T 120, gv T 121, gv T 122, gv T 123, gv T 124, gv T 125, gv T 126, gv T 127, gv T 128, gv T 129, gv T 130, gv T 131, gv T 132, gv T 133, gv T 134, gv T 135, gv T 136, gv T 137, gv T 138, gv T 139, gv T 140, gv T 141, gv T 142, gv T 143, gv T 144, gv T 145, gv T 146, gv T 147, gv T 148, gv T 149, gv T 150, gv T 151, gv T 152, gv T 153, gv T 154, gv T 155, gv T 156, gv T 157, gv T 158], ?_, ?_, hrl _ _ hF hr⟩)
  · rfl
  · simp only [fAw, und22, body9, Try.ntmps9, List.map_toArray, List.map_cons, List.map_nil, Act.eval, List.size_toArray, List.length_cons, List.length_nil, Nat.reduceAdd, Nat.reduceSub, Nat.sub_zero, Array.replicate_succ, Array.replicate_zero, List.push_toArray, List.append_toArray, List.nil_append, List.cons_append]
    rfl
set_option maxRecDepth 100000 in
set_option maxHeartbeats 4000000 in
theorem o_yes {ap al : Option Addr} {np pcap n lcap kc : Nat} {Rv : Value → World → Prop} (w : World) (hF : Q w) (T : Array Value) (hT : T.size = 159) (h1 : T[1]? = some (.slice al n lcap)) (h5 : T[5]? = some (.slice ap np pcap)) (h27 : T[27]? = some (.bool false)) (hkc : ∀ w, Q w → CallsC Try.prog mn (Ext Vn) (HDq (Cx0 Sh)) 11 #[.slice al n lcap] kc w (fun r w' => Q w' ∧ Rv r w')) (hRs : ∀ r w w', Rv r w → Ext Vn w w' → Rv r w') :
    Goes Try.prog mn (Ext Vn) (HDq (Cx0 Sh)) (fun g w => ∃ r T', (T'.size = 159 ∧ T'[1]? = some (.slice al n lcap)) ∧ g = G (fRun (entryT (.slice ap np pcap) r) [.code bodyM]) (fOr T' (.inRegion opsO4 (3 :: [4, 5, 6, 7, 8]) :: .code (rt restO) :: []) :: []) ∧ Q w ∧ Rv r w) (10 + kc + 3 + 20)
      (G (fOr T (.inRegion opsO2 [] :: .code condO :: .code restO :: [])) []) w := by
  rw [arrG159 T hT]
  simp only [gv_of h1, gv_of h5, gv_of h27]
  simp only [fOr, fAw, opsO1, opsO2, opsO3, opsO4, opsO5, opsO9, condO, restO, bodyO, bodyM, body9, yesC, inner, rt, lf, opsOf, Try.f4, Option.getD_some]
  refine Goes.step rfl (fun w hr => ?_)
  replace hF := (hrl _ _) hF hr
  clear hr
  rw [stepG_region_end]
  simp only [goes_go]
  refine ⟨hdq_idle _ _, ?_⟩
  refine Goes.step rfl (fun w hr => ?_)
  replace hF := (hrl _ _) hF hr
  clear hr
  rw [stepG_cond (t := false) (by first | rfl | (simp [Act.eval]; omega))]
  simp only [goes_go, if_true, if_false, Bool.false_eq_true, ↓reduceIte]
  refine ⟨hdq_idle _ _, ?_⟩
  refine Goes.step rfl (fun w hr => ?_)
  replace hF := (hrl _ _) hF hr
  clear hr
  rw [stepG_skip]
  simp only [goes_go]
  refine ⟨hdq_idle _ _, ?_⟩
  refine Goes.step rfl (fun w hr => ?_)
  replace hF := (hrl _ _) hF hr
  clear hr
  rw [stepG_seq]
  simp only [goes_go]
  refine ⟨hdq_idle _ _, ?_⟩
  refine Goes.step rfl (fun w hr => ?_)
  replace hF := (hrl _ _) hF hr
  clear hr
  rw [stepG_region]
  simp only [goes_go, List.size_toArray, List.length_cons, List.length_nil, Nat.reduceAdd, Nat.zero_add, List.range, List.range.loop]
  refine ⟨hdq_idle _ _, ?_⟩
  refine Goes.step rfl (fun w hr => ?_)
  replace hF := (hrl _ _) hF hr
  clear hr
  refine goes_oper_k rfl rfl (by k_ne) (fun K hK => ?_)
  go_simp
  refine hK _ _ ⟨?_, ?_⟩
  · rw [listed_nil (by simp [go_sem])]; exact hdq_idle _ _
  clear hK K
  try walk_nrm
  refine Goes.step rfl (fun w hr => ?_)
  replace hF := (hrl _ _) hF hr
  clear hr
  refine goes_oper_k rfl rfl (by k_ne) (fun K hK => ?_)
  go_simp
  refine hK _ _ ⟨?_, ?_⟩
  · rw [listed_nil (by simp [go_sem])]; exact hdq_idle _ _
  clear hK K
  try walk_nrm
  refine Goes.mono (n := 10 + kc + 3) ?_ (by omega)
  refine Goes.call (hdq_terms (Cx0 Sh) Vn) (f := 11) (args := #[.tmp 31]) (ats := #[23]) rfl rfl (by k_ne) rfl (by simp only [List.map_toArray, List.map_cons, List.map_nil, Act.eval]; exact hkc _ hF) (fun r w hv => ?_)
  clear hF hkc
  obtain ⟨hF, hR⟩ := hv
  try walk_nrm
  refine Goes.step rfl (fun w hr => ?_)
  replace hF := hrl _ _ hF hr
  replace hR := hRs _ _ _ hR hr
  clear hr
  refine goes_call rfl rfl (by k_ne) rfl Try.func10 rfl rfl ⟨hdq_idle _ _, ?_⟩
  refine Goes.stop (fun w hr => ⟨r, #[gv T 0, .slice al n lcap, gv T 2, gv T 3, gv T 4, .slice ap np pcap, gv T 6, gv T 7, gv T 8, gv T 9, gv T 10, gv T 11, gv T 12, gv T 13, gv T 14, gv T 15, gv T 16, gv T 17, gv T 18, gv T 19, gv T 20, gv T 21, gv T 22, gv T 23, gv T 24, gv T 25, gv T 26, .bool false, gv T 28, gv T 29, .slice ap np pcap, .slice al n lcap, r, gv T 33, gv T 34, gv T 35, gv T 36, gv T 37, gv T 38, gv T 39, gv T 40, gv T 41, gv T 42, gv T 43, gv T 44, gv T 45, gv T 46, gv T 47, gv T 48, gv T 49, gv T 50, gv T 51, gv T 52, gv T 53, gv T 54, gv T 55, gv T 56, gv T 57, gv T 58, gv T 59, gv T 60, gv T 61, gv T 62, gv T 63, gv T 64, gv T 65, gv T 66, gv T 67, gv T 68, gv T 69, gv T 70, gv T 71, gv T 72, gv T 73, gv T 74, gv T 75, gv T 76, gv T 77, gv T 78, gv T 79, gv T 80, gv T 81, gv T 82, gv T 83, gv T 84, gv T 85, gv T 86, gv T 87, gv T 88, gv T 89, gv T 90, gv T 91, gv T 92, gv T 93, gv T 94, gv T 95, gv T 96, gv T 97, gv T 98, gv T 99, gv T 100, gv T 101, gv T 102, gv T 103, gv T 104, gv T 105, gv T 106, gv T 107, gv T 108, gv T 109, gv T 110, gv T 111, gv T 112, gv T 113, gv T 114, gv T 115, gv T 116, gv T 117, gv T 118, gv T 119, gv T 120, gv T 121, gv T 122, gv T 123, gv T 124, gv T 125, gv T 126, gv T 127, gv T 128, gv T 129, gv T 130, gv T 131, gv T 132, gv T 133, gv T 134, gv T 135, gv T 136, gv T 137, gv T 138, gv T 139, gv T 140, gv T 141, gv T 142, gv T 143, gv T 144, gv T 145, gv T 146, gv T 147, gv T 148, gv T 149, gv T 150, gv T 151, gv T 152, gv T 153, gv T 154, gv T 155, gv T 156, gv T 157, gv T 158], ⟨?_, ?_⟩, ?_, hrl _ _ hF hr, hRs _ _ _ hR hr⟩)
  · rfl
  · rfl
  · simp only [fRun, entryT, bodyM, Try.ntmps10, List.map_toArray, List.map_cons, List.map_nil, Act.eval, List.size_toArray, List.length_cons, List.length_nil, Nat.reduceAdd, Nat.reduceSub, Array.replicate_succ, Array.replicate_zero, List.push_toArray, List.append_toArray, List.nil_append, List.cons_append]
    rfl
set_option maxRecDepth 100000 in
set_option maxHeartbeats 4000000 in
theorem o_mid {u : Value} {al : Option Addr} {n lcap kc : Nat} {Rv : Value → World → Prop} (w : World) (hF : Q w) (T : Array Value) (hT : T.size = 159) (h1 : T[1]? = some (.slice al n lcap)) (hkc : ∀ w, Q w → CallsC Try.prog mn (Ext Vn) (HDq (Cx0 Sh)) 11 #[.slice al n lcap] kc w (fun r w' => Q w' ∧ Rv r w')) (hRs : ∀ r w w', Rv r w → Ext Vn w w' → Rv r w') :
    Goes Try.prog mn (Ext Vn) (HDq (Cx0 Sh)) (fun g w => ∃ r T', (T'.size = 159 ∧ T'[1]? = some (.slice al n lcap) ∧ T'[6]? = some u ∧ T'[7]? = some (.int .i64 0)) ∧ g = G (fRun (entryT (.slice none 0 0) r) [.code bodyM]) (fOr T' (.inRegion opsO5 (2 :: [3, 4, 5, 6, 7]) :: .code (rt (rt restO)) :: []) :: []) ∧ Q w ∧ Rv r w) (10 + kc + 3 + 40)
      (G ((base 4).at (Act.put ⟨T, []⟩ ((opsO4[3]?).bind (·.dst)) (.tuple #[u, .int .i64 0])) (.inRegion opsO4 [4, 5, 6, 7, 8] :: .code (rt restO) :: [])) []) w := by
  rw [arrG159 T hT]
  simp only [gv_of h1]
  simp only [fOr, fAw, opsO1, opsO2, opsO3, opsO4, opsO5, opsO9, condO, restO, bodyO, bodyM, body9, yesC, inner, rt, lf, opsOf, Try.f4, Option.getD_some]
  walk_nrm
  refine Goes.step rfl (fun w hr => ?_)
  replace hF := (hrl _ _) hF hr
  clear hr
  refine goes_oper_k rfl rfl (by k_ne) (fun K hK => ?_)
  go_simp
  refine hK _ _ ⟨?_, ?_⟩
  · rw [listed_nil (by simp [go_sem])]; exact hdq_idle _ _
  clear hK K
  try walk_nrm
  refine Goes.step rfl (fun w hr => ?_)
  replace hF := (hrl _ _) hF hr
  clear hr
  refine goes_oper_k rfl rfl (by k_ne) (fun K hK => ?_)
  go_simp
  refine hK _ _ ⟨?_, ?_⟩
  · rw [listed_nil (by simp [go_sem])]; exact hdq_idle _ _
  clear hK K
  try walk_nrm
  refine Goes.step rfl (fun w hr => ?_)
  replace hF := (hrl _ _) hF hr
  clear hr
  refine goes_oper_k rfl rfl (by k_ne) (fun K hK => ?_)
  go_simp
  refine hK _ _ ⟨?_, ?_⟩
  · rw [listed_nil (by simp [go_sem])]; exact hdq_idle _ _
  clear hK K
  try walk_nrm
  refine Goes.step rfl (fun w hr => ?_)
  replace hF := (hrl _ _) hF hr
  clear hr
  refine goes_oper_k rfl rfl (by k_ne) (fun K hK => ?_)
  go_simp
  refine hK _ _ ⟨?_, ?_⟩
  · rw [listed_nil (by simp [go_sem])]; exact hdq_idle _ _
  clear hK K
  try walk_nrm
  refine Goes.step rfl (fun w hr => ?_)
  replace hF := (hrl _ _) hF hr
  clear hr
  refine goes_oper_k rfl rfl (by k_ne) (fun K hK => ?_)
  go_simp
  refine hK _ _ ⟨?_, ?_⟩
  · rw [listed_nil (by simp [go_sem])]; exact hdq_idle _ _
  clear hK K
  try walk_nrm
  refine Goes.step rfl (fun w hr => ?_)
  replace hF := (hrl _ _) hF hr
  clear hr
  rw [stepG_region_end]
  simp only [goes_go]
  refine ⟨hdq_idle _ _, ?_⟩
  refine Goes.step rfl (fun w hr => ?_)
  replace hF := (hrl _ _) hF hr
  clear hr
  rw [stepG_seq]
  simp only [goes_go]
  refine ⟨hdq_idle _ _, ?_⟩
  refine Goes.step rfl (fun w hr => ?_)
  replace hF := (hrl _ _) hF hr
  clear hr
  rw [stepG_region]
  simp only [goes_go, List.size_toArray, List.length_cons, List.length_nil, Nat.reduceAdd, Nat.zero_add, List.range, List.range.loop]
  refine ⟨hdq_idle _ _, ?_⟩
  refine Goes.step rfl (fun w hr => ?_)
  replace hF := (hrl _ _) hF hr
  clear hr
  refine goes_oper_k rfl rfl (by k_ne) (fun K hK => ?_)
  go_simp
  refine hK _ _ ⟨?_, ?_⟩
  · rw [listed_nil (by simp [go_sem])]; exact hdq_idle _ _
  clear hK K
  try walk_nrm
  refine Goes.mono (n := 10 + kc + 3) ?_ (by omega)
  refine Goes.call (hdq_terms (Cx0 Sh) Vn) (f := 11) (args := #[.tmp 37]) (ats := #[23]) rfl rfl (by k_ne) rfl (by simp only [List.map_toArray, List.map_cons, List.map_nil, Act.eval]; exact hkc _ hF) (fun r w hv => ?_)
  clear hF hkc
  obtain ⟨hF, hR⟩ := hv
  try walk_nrm
  refine Goes.step rfl (fun w hr => ?_)
  replace hF := hrl _ _ hF hr
  replace hR := hRs _ _ _ hR hr
  clear hr
  refine goes_call rfl rfl (by k_ne) rfl Try.func10 rfl rfl ⟨hdq_idle _ _, ?_⟩
  refine Goes.stop (fun w hr => ⟨r, #[gv T 0, .slice al n lcap, gv T 2, gv T 3, gv T 4, gv T 5, u, .int .i64 0, gv T 8, gv T 9, gv T 10, gv T 11, gv T 12, gv T 13, gv T 14, gv T 15, gv T 16, gv T 17, gv T 18, gv T 19, gv T 20, gv T 21, gv T 22, gv T 23, gv T 24, gv T 25, gv T 26, gv T 27, gv T 28, .tuple #[u, .int .i64 0], gv T 30, gv T 31, gv T 32, .tuple #[u, .int .i64 0], u, .int .i64 0, gv T 36, .slice al n lcap, r, gv T 39, gv T 40, gv T 41, gv T 42, gv T 43, gv T 44, gv T 45, gv T 46, gv T 47, gv T 48, gv T 49, gv T 50, gv T 51, gv T 52, gv T 53, gv T 54, gv T 55, gv T 56, gv T 57, gv T 58, gv T 59, gv T 60, gv T 61, gv T 62, gv T 63, gv T 64, gv T 65, gv T 66, gv T 67, gv T 68, gv T 69, gv T 70, gv T 71, gv T 72, gv T 73, gv T 74, gv T 75, gv T 76, gv T 77, gv T 78, gv T 79, gv T 80, gv T 81, gv T 82, gv T 83, gv T 84, gv T 85, gv T 86, gv T 87, gv T 88, gv T 89, gv T 90, gv T 91, gv T 92, gv T 93, gv T 94, gv T 95, gv T 96, gv T 97, gv T 98, gv T 99, gv T 100, gv T 101, gv T 102, gv T 103, gv T 104, gv T 105, gv T 106, gv T 107, gv T 108, gv T 109, gv T 110, gv T 111, gv T 112, gv T 113, gv T 114, gv T 115, gv T 116, gv T 117, gv T 118, gv T 119, gv T 120, gv T 121, gv T 122, gv T 123, gv T 124, gv T 125, gv T 126, gv T 127, gv T 128, gv T 129, gv T 130, gv T 131, gv T 132, gv T 133, gv T 134, gv T 135, gv T 136, gv T 137, gv T 138, gv T 139, gv T 140, gv T 141, gv T 142, gv T 143, gv T 144, gv T 145, gv T 146, gv T 147, gv T 148, gv T 149, gv T 150, gv T 151, gv T 152, gv T 153, gv T 154, gv T 155, gv T 156, gv T 157, gv T 158], ⟨?_, ?_, ?_, ?_⟩, ?_, hrl _ _ hF hr, hRs _ _ _ hR hr⟩)
  · rfl
  · rfl
  · rfl
  · rfl
  · simp only [fRun, entryT, bodyM, Try.ntmps10, List.map_toArray, List.map_cons, List.map_nil, Act.eval, List.size_toArray, List.length_cons, List.length_nil, Nat.reduceAdd, Nat.reduceSub, Array.replicate_succ, Array.replicate_zero, List.push_toArray, List.append_toArray, List.nil_append, List.cons_append]
    rfl
set_option maxRecDepth 100000 in
set_option maxHeartbeats 4000000 in
theorem o_mid2 {u d : Value} {al : Option Addr} {n lcap : Nat} (w : World) (hF : Q w) (T : Array Value) (hT : T.size = 159) (h1 : T[1]? = some (.slice al n lcap)) (h6 : T[6]? = some u) (h7 : T[7]? = some (.int .i64 0)) :
    Goes Try.prog mn (Ext Vn) (HDq (Cx0 Sh)) (fun g w => ∃ T', (T'.size = 159 ∧ T'[1]? = some (.slice al n lcap) ∧ T'[6]? = some u ∧ T'[8]? = some d ∧ T'[10]? = some (.slice none 0 0) ∧ T'[11]? = some (.int .i64 0)) ∧ g = G (fOr T' (.code loopsO :: [])) [] ∧ Q w) (60)
      (G ((base 4).at (Act.put ⟨T, []⟩ ((opsO5[2]?).bind (·.dst)) (.tuple #[d, .int .i64 0])) (.inRegion opsO5 [3, 4, 5, 6, 7] :: .code (rt (rt restO)) :: [])) []) w := by
  rw [arrG159 T hT]
  simp only [gv_of h1, gv_of h6, gv_of h7]
  simp only [fOr, fAw, opsO1, opsO2, opsO3, opsO4, opsO5, opsO9, condO, restO, bodyO, bodyM, body9, yesC, inner, rt, lf, opsOf, Try.f4, Option.getD_some]
  simp only [loopsO]
  simp only [fOr, fAw, opsO1, opsO2, opsO3, opsO4, opsO5, opsO9, condO, restO, bodyO, bodyM, body9, yesC, inner, rt, lf, opsOf, Try.f4, Option.getD_some]
  walk_nrm
  refine Goes.step rfl (fun w hr => ?_)
  replace hF := (hrl _ _) hF hr
  clear hr
  refine goes_oper_k rfl rfl (by k_ne) (fun K hK => ?_)
  go_simp
  refine hK _ _ ⟨?_, ?_⟩
  · rw [listed_nil (by simp [go_sem])]; exact hdq_idle _ _
  clear hK K
  try walk_nrm
  refine Goes.step rfl (fun w hr => ?_)
  replace hF := (hrl _ _) hF hr
  clear hr
  refine goes_oper_k rfl rfl (by k_ne) (fun K hK => ?_)
  go_simp
  refine hK _ _ ⟨?_, ?_⟩
  · rw [listed_nil (by simp [go_sem])]; exact hdq_idle _ _
  clear hK K
  try walk_nrm
  refine Goes.step rfl (fun w hr => ?_)
  replace hF := (hrl _ _) hF hr
  clear hr
  refine goes_oper_k rfl rfl (by k_ne) (fun K hK => ?_)
  go_simp
  refine hK _ _ ⟨?_, ?_⟩
  · rw [listed_nil (by simp [go_sem])]; exact hdq_idle _ _
  clear hK K
  try walk_nrm
  refine Goes.step rfl (fun w hr => ?_)
  replace hF := (hrl _ _) hF hr
  clear hr
  refine goes_oper_k rfl rfl (by k_ne) (fun K hK => ?_)
  go_simp
  refine hK _ _ ⟨?_, ?_⟩
  · rw [listed_nil (by simp [go_sem])]; exact hdq_idle _ _
  clear hK K
  try walk_nrm
  refine Goes.step rfl (fun w hr => ?_)
  replace hF := (hrl _ _) hF hr
  clear hr
  refine goes_oper_k rfl rfl (by k_ne) (fun K hK => ?_)
  go_simp
  refine hK _ _ ⟨?_, ?_⟩
  · rw [listed_nil (by simp [go_sem])]; exact hdq_idle _ _
  clear hK K
  try walk_nrm
  refine Goes.step rfl (fun w hr => ?_)
  replace hF := (hrl _ _) hF hr
  clear hr
  rw [stepG_region_end]
  simp only [goes_go]
  refine ⟨hdq_idle _ _, ?_⟩
  refine Goes.step rfl (fun w hr => ?_)
  replace hF := (hrl _ _) hF hr
  clear hr
  rw [stepG_seq]
  simp only [goes_go]
  refine ⟨hdq_idle _ _, ?_⟩
  refine Goes.step rfl (fun w hr => ?_)
  replace hF := (hrl _ _) hF hr
  clear hr
  rw [stepG_seq]
  simp only [goes_go]
  refine ⟨hdq_idle _ _, ?_⟩
  refine Goes.step rfl (fun w hr => ?_)
  replace hF := (hrl _ _) hF hr
  clear hr
  rw [stepG_region]
  simp only [goes_go, List.size_toArray, List.length_cons, List.length_nil, Nat.reduceAdd, Nat.zero_add, List.range, List.range.loop]
  refine ⟨hdq_idle _ _, ?_⟩
  refine Goes.step rfl (fun w hr => ?_)
  replace hF := (hrl _ _) hF hr
  clear hr
  refine goes_oper_k rfl rfl (by k_ne) (fun K hK => ?_)
  go_simp
  refine hK _ _ ⟨?_, ?_⟩
  · rw [listed_nil (by simp [go_sem])]; exact hdq_idle _ _
  clear hK K
  try walk_nrm
  refine Goes.step rfl (fun w hr => ?_)
  replace hF := (hrl _ _) hF hr
  clear hr
  refine goes_oper_k rfl rfl (by k_ne) (fun K hK => ?_)
  go_simp
  refine hK _ _ ⟨?_, ?_⟩
  · rw [listed_nil (by simp [go_sem])]; exact hdq_idle _ _
  clear hK K
  try walk_nrm
  refine Goes.step rfl (fun w hr => ?_)
  replace hF := (hrl _ _) hF hr
  clear hr
  refine goes_oper_k rfl rfl (by k_ne) (fun K hK => ?_)
  go_simp
  refine hK _ _ ⟨?_, ?_⟩
  · rw [listed_nil (by simp [go_sem])]; exact hdq_idle _ _
  clear hK K
  try walk_nrm
  refine Goes.step rfl (fun w hr => ?_)
  replace hF := (hrl _ _) hF hr
  clear hr
  refine goes_oper_k rfl rfl (by k_ne) (fun K hK => ?_)
  go_simp
  refine hK _ _ ⟨?_, ?_⟩
  · rw [listed_nil (by simp [go_sem])]; exact hdq_idle _ _
  clear hK K
  try walk_nrm
  refine Goes.step rfl (fun w hr => ?_)
  replace hF := (hrl _ _) hF hr
  clear hr
  refine goes_oper_k rfl rfl (by k_ne) (fun K hK => ?_)
  go_simp
  refine hK _ _ ⟨?_, ?_⟩
  · rw [listed_nil (by simp [go_sem])]; exact hdq_idle _ _
  clear hK K
  try walk_nrm
  refine Goes.step rfl (fun w hr => ?_)
  replace hF := (hrl _ _) hF hr
  clear hr
  refine goes_oper_k rfl rfl (by k_ne) (fun K hK => ?_)
  go_simp
  refine hK _ _ ⟨?_, ?_⟩
  · rw [listed_nil (by simp [go_sem])]; exact hdq_idle _ _
  clear hK K
  try walk_nrm
  refine Goes.step rfl (fun w hr => ?_)
  replace hF := (hrl _ _) hF hr
  clear hr
  rw [stepG_region_end]
  simp only [goes_go]
  refine ⟨hdq_idle _ _, ?_⟩
  refine Goes.step rfl (fun w hr => ?_)
  replace hF := (hrl _ _) hF hr
  clear hr
  rw [stepG_cond (t := false) (by first | rfl | (simp [Act.eval]; omega))]
  simp only [goes_go, if_true, if_false, Bool.false_eq_true, ↓reduceIte]
  refine ⟨hdq_idle _ _, ?_⟩
  refine Goes.step rfl (fun w hr => ?_)
  replace hF := (hrl _ _) hF hr
  clear hr
  rw [stepG_skip]
  simp only [goes_go]
  refine ⟨hdq_idle _ _, ?_⟩
  refine Goes.step rfl (fun w hr => ?_)
  replace hF := (hrl _ _) hF hr
  clear hr
  rw [stepG_seq]
  simp only [goes_go]
  refine ⟨hdq_idle _ _, ?_⟩
  refine Goes.step rfl (fun w hr => ?_)
  replace hF := (hrl _ _) hF hr
  clear hr
  rw [stepG_region]
  simp only [goes_go, List.size_toArray, List.length_cons, List.length_nil, Nat.reduceAdd, Nat.zero_add, List.range, List.range.loop]
  refine ⟨hdq_idle _ _, ?_⟩
  refine Goes.step rfl (fun w hr => ?_)
  replace hF := (hrl _ _) hF hr
  clear hr
  refine goes_oper_k rfl rfl (by k_ne) (fun K hK => ?_)
  go_simp
  refine hK _ _ ⟨?_, ?_⟩
  · rw [listed_nil (by simp [go_sem])]; exact hdq_idle _ _
  clear hK K
  try walk_nrm
  refine Goes.step rfl (fun w hr => ?_)
  replace hF := (hrl _ _) hF hr
  clear hr
  rw [stepG_region_end]
  simp only [goes_go]
  refine ⟨hdq_idle _ _, ?_⟩
  refine Goes.step rfl (fun w hr => ?_)
  replace hF := (hrl _ _) hF hr
  clear hr
  rw [stepG_seq]
  simp only [goes_go]
  refine ⟨hdq_idle _ _, ?_⟩
  refine Goes.step rfl (fun w hr => ?_)
  replace hF := (hrl _ _) hF hr
  clear hr
  rw [stepG_region]
  simp only [goes_go, List.size_toArray, List.length_cons, List.length_nil, Nat.reduceAdd, Nat.zero_add, List.range, List.range.loop]
  refine ⟨hdq_idle _ _, ?_⟩
  refine Goes.step rfl (fun w hr => ?_)
  replace hF := (hrl _ _) hF hr
  clear hr
  refine goes_oper_k rfl rfl (by k_ne) (fun K hK => ?_)
  go_simp
  refine hK _ _ ⟨?_, ?_⟩
  · rw [listed_nil (by simp [go_sem])]; exact hdq_idle _ _
  clear hK K
  try walk_nrm
  refine Goes.step rfl (fun w hr => ?_)
  replace hF := (hrl _ _) hF hr
  clear hr
  rw [stepG_region_end]
  simp only [goes_go]
  refine ⟨hdq_idle _ _, ?_⟩
  refine Goes.stop (fun w hr => ⟨_, ⟨?_, ?_, ?_, ?_, ?_, ?_⟩, rfl, hrl _ _ hF hr⟩) <;> rfl
set_option maxRecDepth 100000 in
set_option maxHeartbeats 4000000 in
theorem o_aw {d : Value} {k : Nat} (w : World) (hF : Q w) (T : Array Value) (hT : T.size = 159) (h8 : T[8]? = some d) (h11 : T[11]? = some (.int .i64 k)) :
    Goes Try.prog mn (Ext Vn) (HDq (Cx0 Sh)) (fun g w => ∃ T', (T'.size = 159 ∧ T'[8]? = some d ∧ T'[11]? = some (.int .i64 k)) ∧ g = G (fAw und22 [.code body9]) (fOr T' (.inRegion opsO9 (0 :: [1, 2, 3, 4, 5, 6, 7]) :: .code .ret :: []) :: []) ∧ Q w) (20)
      (G (fOr T (.code lastO :: [])) []) w := by
  rw [arrG159 T hT]
  simp only [gv_of h8, gv_of h11]
  simp only [fOr, fAw, opsO1, opsO2, opsO3, opsO4, opsO5, opsO9, condO, restO, bodyO, bodyM, body9, yesC, inner, rt, lf, opsOf, Try.f4, Option.getD_some]
  simp only [opsO9, lastO, loopsO]
  simp only [fOr, fAw, opsO1, opsO2, opsO3, opsO4, opsO5, opsO9, condO, restO, bodyO, bodyM, body9, yesC, inner, rt, lf, opsOf, Try.f4, Option.getD_some]
  refine Goes.step rfl (fun w hr => ?_)
  replace hF := (hrl _ _) hF hr
  clear hr
  rw [stepG_seq]
  simp only [goes_go]
  refine ⟨hdq_idle _ _, ?_⟩
  refine Goes.step rfl (fun w hr => ?_)
  replace hF := (hrl _ _) hF hr
  clear hr
  rw [stepG_region]
  simp only [goes_go, List.size_toArray, List.length_cons, List.length_nil, Nat.reduceAdd, Nat.zero_add, List.range, List.range.loop]
  refine ⟨hdq_idle _ _, ?_⟩
  refine Goes.step rfl (fun w hr => ?_)
  replace hF := (hrl _ _) hF hr
  clear hr
  refine goes_call rfl rfl (by k_ne) rfl Try.func9 rfl rfl ⟨hdq_idle _ _, ?_⟩
  refine Goes.stop (fun w hr => ⟨#[gv T 0, gv T 1, gv T 2, gv T 3, gv T 4, gv T 5, gv T 6, gv T 7, d, gv T 9, gv T 10, .int .i64 k, gv T 12, gv T 13, gv T 14, gv T 15, gv T 16, gv T 17, gv T 18, gv T 19, gv T 20, gv T 21, gv T 22, gv T 23, gv T 24, gv T 25, gv T 26, gv T 27, gv T 28, gv T 29, gv T 30, gv T 31, gv T 32, gv T 33, gv T 34, gv T 35, gv T 36, gv T 37, gv T 38, gv T 39, gv T 40, gv T 41, gv T 42, gv T 43, gv T 44, gv T 45, gv T 46, gv T 47, gv T 48, gv T 49, gv T 50, gv T 51, gv T 52, gv T 53, gv T 54, gv T 55, gv T 56, gv T 57, gv T 58, gv T 59, gv T 60, gv T 61, gv T 62, gv T 63, gv T 64, gv T 65, gv T 66, gv T 67, gv T 68, gv T 69, gv T 70, gv T 71, gv T 72, gv T 73, gv T 74, gv T 75, gv T 76, gv T 77, gv T 78, gv T 79, gv T 80, gv T 81, gv T 82, gv T 83, gv T 84, gv T 85, gv T 86, gv T 87, gv T 88, gv T 89, gv T 90, gv T 91, gv T 92, gv T 93, gv T 94, gv T 95, gv T 96, gv T 97, gv T 98, gv T 99, gv T 100, gv T 101, gv T 102, gv T 103, gv T 104, gv T 105, gv T 106, gv T 107, gv T 108, gv T 109, gv T 110, gv T 111, gv T 112, gv T 113, gv T 114, gv T 115, gv T 116, gv T 117, gv T 118, gv T 119, gv T 120, gv T 121, gv T 122, gv T 123, gv T 124, gv T 125, gv T 126, gv T 127, gv T 128, gv T 129, gv T 130, gv T 131, gv T 132, gv T 133, gv T 134, gv T 135, gv T 136, gv T 137, gv T 138, gv T 139, gv T 140, gv T 141, gv T 142, gv T 143, gv T 144, gv T 145, gv T 146, gv T 147, gv T 148, gv T 149, gv T 150, gv T 151, gv T 152, gv T 153, gv T 154, gv T 155, gv T 156, gv T 157, gv T 158], ⟨?_, ?_, ?_⟩, ?_, hrl _ _ hF hr⟩)
  · rfl
  · rfl
  · rfl
  · simp only [fAw, und22, body9, Try.ntmps9, List.map_toArray, List.map_cons, List.map_nil, Act.eval, List.size_toArray, List.length_cons, List.length_nil, Nat.reduceAdd, Nat.reduceSub, Nat.sub_zero, Array.replicate_succ, Array.replicate_zero, List.push_toArray, List.append_toArray, List.nil_append, List.cons_append]
    rfl
set_option maxRecDepth 100000 in
set_option maxHeartbeats 4000000 in
theorem o_out {a : Option Addr} {k c : Nat} (w : World) (hF : Q w) (T : Array Value) (hT : T.size = 159) (h8 : T[8]? = some (.slice a k c)) (h11 : T[11]? = some (.int .i64 k)) :
    Goes Try.prog mn (Ext Vn) (HDq (Cx0 Sh)) (fun g w => ∃ T' k, T'[4]? = some (.bool true) ∧ g = G { fOr T' k with mode := .returning } [] ∧ Q w) (20)
      (G ((base 4).at (Act.put ⟨T, []⟩ ((opsO9[0]?).bind (·.dst)) (.bool true)) (.inRegion opsO9 [1, 2, 3, 4, 5, 6, 7] :: .code .ret :: [])) []) w := by
  rw [arrG159 T hT]
  simp only [gv_of h8, gv_of h11]
  simp only [fOr, fAw, opsO1, opsO2, opsO3, opsO4, opsO5, opsO9, condO, restO, bodyO, bodyM, body9, yesC, inner, rt, lf, opsOf, Try.f4, Option.getD_some]
  simp only [opsO9, lastO, loopsO]
  simp only [fOr, fAw, opsO1, opsO2, opsO3, opsO4, opsO5, opsO9, condO, restO, bodyO, bodyM, body9, yesC, inner, rt, lf, opsOf, Try.f4, Option.getD_some]
  walk_nrm
  refine Goes.step rfl (fun w hr => ?_)
  replace hF := (hrl _ _) hF hr
  clear hr
  refine goes_oper_k rfl rfl (by k_ne) (fun K hK => ?_)
  go_simp
  refine hK _ _ ⟨?_, ?_⟩
  · rw [listed_nil (by simp [go_sem])]; exact hdq_idle _ _
  clear hK K
  try walk_nrm
  refine Goes.step rfl (fun w hr => ?_)
  replace hF := (hrl _ _) hF hr
  clear hr
  refine goes_oper_k rfl rfl (by k_ne) (fun K hK => ?_)
  go_simp
  refine hK _ _ ⟨?_, ?_⟩
  · rw [listed_nil (by simp [go_sem])]; exact hdq_idle _ _
  clear hK K
  try walk_nrm
  refine Goes.step rfl (fun w hr => ?_)
  replace hF := (hrl _ _) hF hr
  clear hr
  refine goes_oper_k rfl rfl (by k_ne) (fun K hK => ?_)
  go_simp
  refine hK _ _ ⟨?_, ?_⟩
  · rw [listed_nil (by simp [go_sem])]; exact hdq_idle _ _
  clear hK K
  try walk_nrm
  refine Goes.step rfl (fun w hr => ?_)
  replace hF := (hrl _ _) hF hr
  clear hr
  refine goes_oper_k rfl rfl (by k_ne) (fun K hK => ?_)
  go_simp
  refine hK _ _ ⟨?_, ?_⟩
  · rw [listed_nil (by simp [go_sem])]; exact hdq_idle _ _
  clear hK K
  try walk_nrm
  refine Goes.step rfl (fun w hr => ?_)
  replace hF := (hrl _ _) hF hr
  clear hr
  refine goes_oper_k rfl rfl (by k_ne) (fun K hK => ?_)
  go_simp
  refine hK _ _ ⟨?_, ?_⟩
  · rw [listed_nil (by simp [go_sem])]; exact hdq_idle _ _
  clear hK K
  try walk_nrm
  refine Goes.step rfl (fun w hr => ?_)
  replace hF := (hrl _ _) hF hr
  clear hr
  refine goes_oper_k rfl rfl (by k_ne) (fun K hK => ?_)
  go_simp
  refine hK _ _ ⟨?_, ?_⟩
  · rw [listed_nil (by simp [go_sem])]; exact hdq_idle _ _
  clear hK K
  try walk_nrm
  refine Goes.step rfl (fun w hr => ?_)
  replace hF := (hrl _ _) hF hr
  clear hr
  refine goes_oper_k rfl rfl (by k_ne) (fun K hK => ?_)
  go_simp
  refine hK _ _ ⟨?_, ?_⟩
  · rw [listed_nil (by simp [go_sem])]; exact hdq_idle _ _
  clear hK K
  try walk_nrm
  refine Goes.step rfl (fun w hr => ?_)
  replace hF := (hrl _ _) hF hr
  clear hr
  rw [stepG_region_end]
  simp only [goes_go]
  refine ⟨hdq_idle _ _, ?_⟩
  refine Goes.step rfl (fun w hr => ?_)
  replace hF := (hrl _ _) hF hr
  clear hr
  rw [stepG_ret']
  simp only [goes_go]
  refine ⟨hdq_idle _ _, ?_⟩
  refine Goes.stop (fun w hr => ⟨_, _, ?_, rfl, hrl _ _ hF hr⟩)
  simp
set_option maxRecDepth 100000 in
set_option maxHeartbeats 4000000 in
theorem o_out0 (w : World) (hF : Q w) (T : Array Value) (hT : T.size = 159) :
    Goes Try.prog mn (Ext Vn) (HDq (Cx0 Sh)) (fun g w => ∃ T' k, T'[4]? = some (.bool true) ∧ g = G { fOr T' k with mode := .returning } [] ∧ Q w) (10)
      (G ((base 4).at (Act.put ⟨T, []⟩ ((opsO3[0]?).bind (·.dst)) (.bool true)) (.inRegion opsO3 [1] :: .code .ret :: .code restO :: [])) []) w := by
  rw [arrG159 T hT]
  simp only [fOr, fAw, opsO1, opsO2, opsO3, opsO4, opsO5, opsO9, condO, restO, bodyO, bodyM, body9, yesC, inner, rt, lf, opsOf, Try.f4, Option.getD_some]
  walk_nrm
  refine Goes.step rfl (fun w hr => ?_)
  replace hF := (hrl _ _) hF hr
  clear hr
  refine goes_oper_k rfl rfl (by k_ne) (fun K hK => ?_)
  go_simp
  refine hK _ _ ⟨?_, ?_⟩
  · rw [listed_nil (by simp [go_sem])]; exact hdq_idle _ _
  clear hK K
  try walk_nrm
  refine Goes.step rfl (fun w hr => ?_)
  replace hF := (hrl _ _) hF hr
  clear hr
  rw [stepG_region_end]
  simp only [goes_go]
  refine ⟨hdq_idle _ _, ?_⟩
  refine Goes.step rfl (fun w hr => ?_)
  replace hF := (hrl _ _) hF hr
  clear hr
  rw [stepG_ret']
  simp only [goes_go]
  refine ⟨hdq_idle _ _, ?_⟩
  refine Goes.stop (fun w hr => ⟨_, _, ?_, rfl, hrl _ _ hF hr⟩)
  rfl
end
end
end Go.Proofs.Ytggfcdhkgldbfaa
