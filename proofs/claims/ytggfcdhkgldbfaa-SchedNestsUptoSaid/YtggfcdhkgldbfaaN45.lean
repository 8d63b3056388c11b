/-
  PARTS of a claim, merged by segs.py: NwLw.
-/
import Derived.Test.YtggfcdhkgldbfaaN40
import Derived.Test.YtggfcdhkgldbfaaN44
namespace Go.Proofs.Ytggfcdhkgldbfaa
set_option linter.unusedSimpArgs false
set_option linter.unusedVariables false

/-! ### NwLw -/
section
set_option linter.unusedSimpArgs false
open Go Go.Conc Go.RowKit Go.ConcR.Gen Cw

theorem arrG71 (T : Array Value) (h : T.size = 71) : T = #[gv T 0, gv T 1, gv T 2, gv T 3, gv T 4, gv T 5, gv T 6, gv T 7, gv T 8, gv T 9, gv T 10, gv T 11, gv T 12, gv T 13, gv T 14, gv T 15, gv T 16, gv T 17, gv T 18, gv T 19, gv T 20, gv T 21, gv T 22, gv T 23, gv T 24, gv T 25, gv T 26, gv T 27, gv T 28, gv T 29, gv T 30, gv T 31, gv T 32, gv T 33, gv T 34, gv T 35, gv T 36, gv T 37, gv T 38, gv T 39, gv T 40, gv T 41, gv T 42, gv T 43, gv T 44, gv T 45, gv T 46, gv T 47, gv T 48, gv T 49, gv T 50, gv T 51, gv T 52, gv T 53, gv T 54, gv T 55, gv T 56, gv T 57, gv T 58, gv T 59, gv T 60, gv T 61, gv T 62, gv T 63, gv T 64, gv T 65, gv T 66, gv T 67, gv T 68, gv T 69, gv T 70] := (arr_eq T 71 h).trans (by rfl)
noncomputable def bodyNs : Code := Try.f5.body.getD .skip
noncomputable def restNs : Code := rt (rt (rt bodyNs))
noncomputable def opsNs1 : Array Oper := opsOf (lf (rt bodyNs))
noncomputable def opsNs2 : Array Oper := opsOf (lf (lf (rt (rt bodyNs))))
noncomputable def condNs : Code := rt (lf (rt (rt bodyNs)))
def yesNs : Code → Code
  | .cond _ x _ => x
  | _ => .skip
noncomputable def opsNs3 : Array Oper := opsOf (lf (yesNs condNs))
noncomputable def cdNs5 : Code := rt restNs
noncomputable def opsNs5 : Array Oper := opsOf (lf (lf cdNs5))
noncomputable def cdNsL : Code := rt (lf cdNs5)
noncomputable def cdNs10 : Code := rt cdNs5
noncomputable def opsNs10 : Array Oper := opsOf (lf cdNs10)
noncomputable def opsNs11 : Array Oper := opsOf (lf (rt cdNs10))
abbrev fNs (T : Array Value) (k : List Item) : Frame := (base 5).at ⟨T, []⟩ k
abbrev undNs : Array Value := #[undef, undef, undef, undef, undef, undef, undef, undef, undef, undef, undef, undef, undef, undef, undef, undef, undef, undef, undef, undef, undef, undef]
section
variable {Sh : Loc → Prop} {mn : Bool} {Q : World → Prop} (hrl : ∀ w w', Q w → Ext Vn w w' → Q w')
include hrl
set_option maxRecDepth 100000 in
set_option maxHeartbeats 4000000 in
theorem x_valid1 {v v2 : Value} {al : Option Addr} {n lcap kc : Nat} {Rv : Value → World → Prop} (w : World) (hF : Q w) (hkc : ∀ w, Q w → CallsC Try.prog mn (Ext Vn) (HDq (Cx0 Sh)) 7 #[v, .int .i64 2] kc w (fun r w' => Q w' ∧ Rv r w')) (hRs : ∀ r w w', Rv r w → Ext Vn w w' → Rv r w') :
    Goes Try.prog mn (Ext Vn) (HDq (Cx0 Sh)) (fun g w => ∃ r T', (T'.size = 71 ∧ T'[1]? = some v2 ∧ T'[2]? = some (.slice al n lcap) ∧ T'[15]? = some r) ∧ g = G (fNs T' (.inRegion opsNs1 [2, 3, 4, 5, 6, 7] :: .code (rt (rt bodyNs)) :: [])) [] ∧ Q w ∧ Rv r w) (10 + kc + 3 + 20)
      (G (fNs #[v, v2, .slice al n lcap, undef, undef, undef, undef, undef, undef, undef, undef, undef, undef, undef, undef, undef, undef, undef, undef, undef, undef, undef, undef, undef, undef, undef, undef, undef, undef, undef, undef, undef, undef, undef, undef, undef, undef, undef, undef, undef, undef, undef, undef, undef, undef, undef, undef, undef, undef, undef, undef, undef, undef, undef, undef, undef, undef, undef, undef, undef, undef, undef, undef, undef, undef, undef, undef, undef, undef, undef, undef] ([.code bodyNs])) []) w := by
  simp only [fNs, fAw, opsNs1, opsNs2, opsNs3, opsNs5, opsNs10, opsNs11, condNs, cdNsL, cdNs10, cdNs5, restNs, bodyNs, bodyM, body9, yesNs, inner, rt, lf, opsOf, Try.f5, Option.getD_some]
  refine Goes.step rfl (fun w hr => ?_)
  replace hF := (hrl _ _) hF hr
  clear hr
  rw [stepG_seq]
  simp only [goes_go]
  refine ⟨hdq_idle _ _, ?_⟩
  refine Goes.step rfl (fun w hr => ?_)
  replace hF := (hrl _ _) hF hr
  clear hr
  rw [stepG_region]
  simp only [goes_go, List.size_toArray, List.length_cons, List.length_nil, Nat.reduceAdd, Nat.zero_add, List.range, List.range.loop]
  refine ⟨hdq_idle _ _, ?_⟩
  refine Goes.step rfl (fun w hr => ?_)
  replace hF := (hrl _ _) hF hr
  clear hr
  refine goes_oper_k rfl rfl (by k_ne) (fun K hK => ?_)
  go_simp
  refine hK _ _ ⟨?_, ?_⟩
  · rw [listed_nil (by simp [go_sem])]; exact hdq_idle _ _
  clear hK K
  try walk_nrm
  refine Goes.step rfl (fun w hr => ?_)
  replace hF := (hrl _ _) hF hr
  clear hr
  rw [stepG_region_end]
  simp only [goes_go]
  refine ⟨hdq_idle _ _, ?_⟩
  refine Goes.step rfl (fun w hr => ?_)
  replace hF := (hrl _ _) hF hr
  clear hr
  rw [stepG_seq]
  simp only [goes_go]
  refine ⟨hdq_idle _ _, ?_⟩
  refine Goes.step rfl (fun w hr => ?_)
  replace hF := (hrl _ _) hF hr
  clear hr
  rw [stepG_region]
  simp only [goes_go, List.size_toArray, List.length_cons, List.length_nil, Nat.reduceAdd, Nat.zero_add, List.range, List.range.loop]
  refine ⟨hdq_idle _ _, ?_⟩
  refine Goes.step rfl (fun w hr => ?_)
  replace hF := (hrl _ _) hF hr
  clear hr
  refine goes_oper_k rfl rfl (by k_ne) (fun K hK => ?_)
  go_simp
  refine hK _ _ ⟨?_, ?_⟩
  · rw [listed_nil (by simp [go_sem])]; exact hdq_idle _ _
  clear hK K
  try walk_nrm
  refine Goes.mono (n := 10 + kc + 3) ?_ (by omega)
  refine Goes.call (hdq_terms (Cx0 Sh) Vn) (f := 7) (args := #[.tmp 14, .const (.int .i64 2)]) (ats := #[22, 3]) rfl rfl (by k_ne) rfl (by simp only [List.map_toArray, List.map_cons, List.map_nil, Act.eval]; exact hkc _ hF) (fun r w hv => ?_)
  clear hF
  obtain ⟨hF, hR⟩ := hv
  try walk_nrm
  refine Goes.stop (fun w hr => ⟨r, _, ⟨?_, ?_, ?_, ?_⟩, rfl, hrl _ _ hF hr, hRs _ _ _ hR hr⟩) <;> rfl
set_option maxRecDepth 100000 in
set_option maxHeartbeats 4000000 in
theorem x_valid2 {v2 : Value} {al ap : Option Addr} {np pcap n lcap kc : Nat} {Rv : Value → World → Prop} (w : World) (hF : Q w) (T : Array Value) (hT : T.size = 71) (h1 : T[1]? = some v2) (h2 : T[2]? = some (.slice al n lcap)) (h15 : T[15]? = some (.slice ap np pcap)) (hkc : ∀ w, Q w → CallsC Try.prog mn (Ext Vn) (HDq (Cx0 Sh)) 7 #[v2, .int .i64 n] kc w (fun r w' => Q w' ∧ Rv r w')) (hRs : ∀ r w w', Rv r w → Ext Vn w w' → Rv r w') :
    Goes Try.prog mn (Ext Vn) (HDq (Cx0 Sh)) (fun g w => ∃ r T', (T'.size = 71 ∧ T'[2]? = some (.slice al n lcap) ∧ T'[15]? = some (.slice ap np pcap) ∧ T'[19]? = some r) ∧ g = G (fNs T' (.inRegion opsNs1 [6, 7] :: .code (rt (rt bodyNs)) :: [])) [] ∧ Q w ∧ Rv r w) (10 + kc + 3 + 20)
      (G (fNs T (.inRegion opsNs1 [2, 3, 4, 5, 6, 7] :: .code (rt (rt bodyNs)) :: [])) []) w := by
  rw [arrG71 T hT]
  simp only [gv_of h1, gv_of h2, gv_of h15]
  simp only [fNs, fAw, opsNs1, opsNs2, opsNs3, opsNs5, opsNs10, opsNs11, condNs, cdNsL, cdNs10, cdNs5, restNs, bodyNs, bodyM, body9, yesNs, inner, rt, lf, opsOf, Try.f5, Option.getD_some]
  refine Goes.step rfl (fun w hr => ?_)
  replace hF := (hrl _ _) hF hr
  clear hr
  refine goes_oper_k rfl rfl (by k_ne) (fun K hK => ?_)
  go_simp
  refine hK _ _ ⟨?_, ?_⟩
  · rw [listed_nil (by simp [go_sem])]; exact hdq_idle _ _
  clear hK K
  try walk_nrm
  refine Goes.step rfl (fun w hr => ?_)
  replace hF := (hrl _ _) hF hr
  clear hr
  refine goes_oper_k rfl rfl (by k_ne) (fun K hK => ?_)
  go_simp
  refine hK _ _ ⟨?_, ?_⟩
  · rw [listed_nil (by simp [go_sem])]; exact hdq_idle _ _
  clear hK K
  try walk_nrm
  refine Goes.step rfl (fun w hr => ?_)
  replace hF := (hrl _ _) hF hr
  clear hr
  refine goes_oper_k rfl rfl (by k_ne) (fun K hK => ?_)
  go_simp
  refine hK _ _ ⟨?_, ?_⟩
  · rw [listed_nil (by simp [go_sem])]; exact hdq_idle _ _
  clear hK K
  try walk_nrm
  refine Goes.mono (n := 10 + kc + 3) ?_ (by omega)
  refine Goes.call (hdq_terms (Cx0 Sh) Vn) (f := 7) (args := #[.tmp 16, .tmp 18]) (ats := #[22, 3]) rfl rfl (by k_ne) rfl (by simp only [List.map_toArray, List.map_cons, List.map_nil, Act.eval]; exact hkc _ hF) (fun r w hv => ?_)
  clear hF
  obtain ⟨hF, hR⟩ := hv
  try walk_nrm
  refine Goes.stop (fun w hr => ⟨r, _, ⟨?_, ?_, ?_, ?_⟩, rfl, hrl _ _ hF hr, hRs _ _ _ hR hr⟩) <;> rfl
set_option maxRecDepth 100000 in
set_option maxHeartbeats 4000000 in
theorem x_few0 {al ap aq : Option Addr} {np pcap nq qcap n lcap kc k2 : Nat} (w : World) (hF : Q w) (T : Array Value) (hT : T.size = 71) (h2 : T[2]? = some (.slice al n lcap)) (h15 : T[15]? = some (.slice ap np pcap)) (h19 : T[19]? = some (.slice aq nq qcap)) (hkc : ∀ w, Q w → CallsC Try.prog mn (Ext Vn) (HDq (Cx0 Sh)) 8 #[.slice ap np pcap, .slice al n lcap] kc w (fun r w' => r = .bool false ∧ Q w')) :
    Goes Try.prog mn (Ext Vn) (HDq (Cx0 Sh)) (fun g w => ∃ T', (T'.size = 71 ∧ T'[2]? = some (.slice al n lcap) ∧ T'[7]? = some (.slice ap np pcap) ∧ T'[8]? = some (.slice aq nq qcap) ∧ T'[29]? = some (.bool true)) ∧ g = G (fNs T' (.inRegion opsNs2 [] :: .code condNs :: .code restNs :: [])) [] ∧ Q w) (10 + kc + 3 + k2 + 60)
      (G (fNs T (.inRegion opsNs1 [6, 7] :: .code (rt (rt bodyNs)) :: [])) []) w := by
  rw [arrG71 T hT]
  simp only [gv_of h2, gv_of h15, gv_of h19]
  simp only [fNs, fAw, opsNs1, opsNs2, opsNs3, opsNs5, opsNs10, opsNs11, condNs, cdNsL, cdNs10, cdNs5, restNs, bodyNs, bodyM, body9, yesNs, inner, rt, lf, opsOf, Try.f5, Option.getD_some]
  refine Goes.step rfl (fun w hr => ?_)
  replace hF := (hrl _ _) hF hr
  clear hr
  refine goes_oper_k rfl rfl (by k_ne) (fun K hK => ?_)
  go_simp
  refine hK _ _ ⟨?_, ?_⟩
  · rw [listed_nil (by simp [go_sem])]; exact hdq_idle _ _
  clear hK K
  try walk_nrm
  refine Goes.step rfl (fun w hr => ?_)
  replace hF := (hrl _ _) hF hr
  clear hr
  refine goes_oper_k rfl rfl (by k_ne) (fun K hK => ?_)
  go_simp
  refine hK _ _ ⟨?_, ?_⟩
  · rw [listed_nil (by simp [go_sem])]; exact hdq_idle _ _
  clear hK K
  try walk_nrm
  refine Goes.step rfl (fun w hr => ?_)
  replace hF := (hrl _ _) hF hr
  clear hr
  rw [stepG_region_end]
  simp only [goes_go]
  refine ⟨hdq_idle _ _, ?_⟩
  refine Goes.step rfl (fun w hr => ?_)
  replace hF := (hrl _ _) hF hr
  clear hr
  rw [stepG_seq]
  simp only [goes_go]
  refine ⟨hdq_idle _ _, ?_⟩
  refine Goes.step rfl (fun w hr => ?_)
  replace hF := (hrl _ _) hF hr
  clear hr
  rw [stepG_seq]
  simp only [goes_go]
  refine ⟨hdq_idle _ _, ?_⟩
  refine Goes.step rfl (fun w hr => ?_)
  replace hF := (hrl _ _) hF hr
  clear hr
  rw [stepG_region]
  simp only [goes_go, List.size_toArray, List.length_cons, List.length_nil, Nat.reduceAdd, Nat.zero_add, List.range, List.range.loop]
  refine ⟨hdq_idle _ _, ?_⟩
  refine Goes.step rfl (fun w hr => ?_)
  replace hF := (hrl _ _) hF hr
  clear hr
  refine goes_oper_k rfl rfl (by k_ne) (fun K hK => ?_)
  go_simp
  refine hK _ _ ⟨?_, ?_⟩
  · rw [listed_nil (by simp [go_sem])]; exact hdq_idle _ _
  clear hK K
  try walk_nrm
  refine Goes.step rfl (fun w hr => ?_)
  replace hF := (hrl _ _) hF hr
  clear hr
  refine goes_oper_k rfl rfl (by k_ne) (fun K hK => ?_)
  go_simp
  refine hK _ _ ⟨?_, ?_⟩
  · rw [listed_nil (by simp [go_sem])]; exact hdq_idle _ _
  clear hK K
  try walk_nrm
  refine Goes.mono (n := 10 + k2 + 20 + kc + 3) ?_ (by omega)
  refine Goes.call (hdq_terms (Cx0 Sh) Vn) (f := 8) (args := #[.tmp 20, .tmp 21]) (ats := #[24, 23]) rfl rfl (by k_ne) rfl (by simp only [List.map_toArray, List.map_cons, List.map_nil, Act.eval]; exact hkc _ hF) (fun r w hv => ?_)
  clear hF
  obtain ⟨rfl, hF⟩ := hv
  try walk_nrm
  refine Goes.step rfl (fun w hr => ?_)
  replace hF := (hrl _ _) hF hr
  clear hr
  refine goes_oper_k rfl rfl (by k_ne) (fun K hK => ?_)
  go_simp
  refine hK _ _ ⟨?_, ?_⟩
  · rw [listed_nil (by simp [go_sem])]; exact hdq_idle _ _
  clear hK K
  try walk_nrm
  refine Goes.step rfl (fun w hr => ?_)
  replace hF := (hrl _ _) hF hr
  clear hr
  refine goes_oper_k rfl rfl (by k_ne) (fun K hK => ?_)
  go_simp
  refine hK _ _ ⟨?_, ?_⟩
  · rw [listed_nil (by simp [go_sem])]; exact hdq_idle _ _
  clear hK K
  try walk_nrm
  refine Goes.step rfl (fun w hr => ?_)
  replace hF := (hrl _ _) hF hr
  clear hr
  rw [stepG_unwanted rfl (by rfl)]
  simp only [goes_go]
  refine ⟨hdq_idle _ _, ?_⟩
  try walk_nrm
  refine Goes.step rfl (fun w hr => ?_)
  replace hF := (hrl _ _) hF hr
  clear hr
  rw [stepG_unwanted rfl (by rfl)]
  simp only [goes_go]
  refine ⟨hdq_idle _ _, ?_⟩
  try walk_nrm
  refine Goes.step rfl (fun w hr => ?_)
  replace hF := (hrl _ _) hF hr
  clear hr
  rw [stepG_unwanted rfl (by rfl)]
  simp only [goes_go]
  refine ⟨hdq_idle _ _, ?_⟩
  try walk_nrm
  refine Goes.step rfl (fun w hr => ?_)
  replace hF := (hrl _ _) hF hr
  clear hr
  rw [stepG_unwanted rfl (by rfl)]
  simp only [goes_go]
  refine ⟨hdq_idle _ _, ?_⟩
  try walk_nrm
  refine Goes.step rfl (fun w hr => ?_)
  replace hF := (hrl _ _) hF hr
  clear hr
  refine goes_oper_k rfl rfl (by k_ne) (fun K hK => ?_)
  go_simp
  refine hK _ _ ⟨?_, ?_⟩
  · rw [listed_nil (by simp [go_sem])]; exact hdq_idle _ _
  clear hK K
  try walk_nrm
  refine Goes.stop (fun w hr => ⟨_, ⟨?_, ?_, ?_, ?_, ?_⟩, rfl, hrl _ _ hF hr⟩) <;> rfl
set_option maxRecDepth 100000 in
set_option maxHeartbeats 4000000 in
theorem x_few1 {al ap aq : Option Addr} {np pcap nq qcap n lcap kc k2 : Nat} {b : Bool} (w : World) (hF : Q w) (T : Array Value) (hT : T.size = 71) (h2 : T[2]? = some (.slice al n lcap)) (h15 : T[15]? = some (.slice ap np pcap)) (h19 : T[19]? = some (.slice aq nq qcap)) (hkc : ∀ w, Q w → CallsC Try.prog mn (Ext Vn) (HDq (Cx0 Sh)) 8 #[.slice ap np pcap, .slice al n lcap] kc w (fun r w' => r = .bool true ∧ Q w')) (hk2 : ∀ w, Q w → CallsC Try.prog mn (Ext Vn) (HDq (Cx0 Sh)) 8 #[.slice aq nq qcap, .slice al n lcap] k2 w (fun r w' => r = .bool b ∧ Q w')) :
    Goes Try.prog mn (Ext Vn) (HDq (Cx0 Sh)) (fun g w => ∃ T', (T'.size = 71 ∧ T'[2]? = some (.slice al n lcap) ∧ T'[7]? = some (.slice ap np pcap) ∧ T'[8]? = some (.slice aq nq qcap) ∧ T'[29]? = some (.bool (!b))) ∧ g = G (fNs T' (.inRegion opsNs2 [] :: .code condNs :: .code restNs :: [])) [] ∧ Q w) (10 + kc + 3 + k2 + 60)
      (G (fNs T (.inRegion opsNs1 [6, 7] :: .code (rt (rt bodyNs)) :: [])) []) w := by
  rw [arrG71 T hT]
  simp only [gv_of h2, gv_of h15, gv_of h19]
  simp only [fNs, fAw, opsNs1, opsNs2, opsNs3, opsNs5, opsNs10, opsNs11, condNs, cdNsL, cdNs10, cdNs5, restNs, bodyNs, bodyM, body9, yesNs, inner, rt, lf, opsOf, Try.f5, Option.getD_some]
  refine Goes.step rfl (fun w hr => ?_)
  replace hF := (hrl _ _) hF hr
  clear hr
  refine goes_oper_k rfl rfl (by k_ne) (fun K hK => ?_)
  go_simp
  refine hK _ _ ⟨?_, ?_⟩
  · rw [listed_nil (by simp [go_sem])]; exact hdq_idle _ _
  clear hK K
  try walk_nrm
  refine Goes.step rfl (fun w hr => ?_)
  replace hF := (hrl _ _) hF hr
  clear hr
  refine goes_oper_k rfl rfl (by k_ne) (fun K hK => ?_)
  go_simp
  refine hK _ _ ⟨?_, ?_⟩
  · rw [listed_nil (by simp [go_sem])]; exact hdq_idle _ _
  clear hK K
  try walk_nrm
  refine Goes.step rfl (fun w hr => ?_)
  replace hF := (hrl _ _) hF hr
  clear hr
  rw [stepG_region_end]
  simp only [goes_go]
  refine ⟨hdq_idle _ _, ?_⟩
  refine Goes.step rfl (fun w hr => ?_)
  replace hF := (hrl _ _) hF hr
  clear hr
  rw [stepG_seq]
  simp only [goes_go]
  refine ⟨hdq_idle _ _, ?_⟩
  refine Goes.step rfl (fun w hr => ?_)
  replace hF := (hrl _ _) hF hr
  clear hr
  rw [stepG_seq]
  simp only [goes_go]
  refine ⟨hdq_idle _ _, ?_⟩
  refine Goes.step rfl (fun w hr => ?_)
  replace hF := (hrl _ _) hF hr
  clear hr
  rw [stepG_region]
  simp only [goes_go, List.size_toArray, List.length_cons, List.length_nil, Nat.reduceAdd, Nat.zero_add, List.range, List.range.loop]
  refine ⟨hdq_idle _ _, ?_⟩
  refine Goes.step rfl (fun w hr => ?_)
  replace hF := (hrl _ _) hF hr
  clear hr
  refine goes_oper_k rfl rfl (by k_ne) (fun K hK => ?_)
  go_simp
  refine hK _ _ ⟨?_, ?_⟩
  · rw [listed_nil (by simp [go_sem])]; exact hdq_idle _ _
  clear hK K
  try walk_nrm
  refine Goes.step rfl (fun w hr => ?_)
  replace hF := (hrl _ _) hF hr
  clear hr
  refine goes_oper_k rfl rfl (by k_ne) (fun K hK => ?_)
  go_simp
  refine hK _ _ ⟨?_, ?_⟩
  · rw [listed_nil (by simp [go_sem])]; exact hdq_idle _ _
  clear hK K
  try walk_nrm
  refine Goes.mono (n := 10 + k2 + 20 + kc + 3) ?_ (by omega)
  refine Goes.call (hdq_terms (Cx0 Sh) Vn) (f := 8) (args := #[.tmp 20, .tmp 21]) (ats := #[24, 23]) rfl rfl (by k_ne) rfl (by simp only [List.map_toArray, List.map_cons, List.map_nil, Act.eval]; exact hkc _ hF) (fun r w hv => ?_)
  clear hF
  obtain ⟨rfl, hF⟩ := hv
  try walk_nrm
  refine Goes.step rfl (fun w hr => ?_)
  replace hF := (hrl _ _) hF hr
  clear hr
  refine goes_oper_k rfl rfl (by k_ne) (fun K hK => ?_)
  go_simp
  refine hK _ _ ⟨?_, ?_⟩
  · rw [listed_nil (by simp [go_sem])]; exact hdq_idle _ _
  clear hK K
  try walk_nrm
  refine Goes.step rfl (fun w hr => ?_)
  replace hF := (hrl _ _) hF hr
  clear hr
  refine goes_oper_k rfl rfl (by k_ne) (fun K hK => ?_)
  go_simp
  refine hK _ _ ⟨?_, ?_⟩
  · rw [listed_nil (by simp [go_sem])]; exact hdq_idle _ _
  clear hK K
  try walk_nrm
  refine Goes.step rfl (fun w hr => ?_)
  replace hF := (hrl _ _) hF hr
  clear hr
  refine goes_oper_k rfl rfl (by k_ne) (fun K hK => ?_)
  go_simp
  refine hK _ _ ⟨?_, ?_⟩
  · rw [listed_nil (by simp [go_sem])]; exact hdq_idle _ _
  clear hK K
  try walk_nrm
  refine Goes.step rfl (fun w hr => ?_)
  replace hF := (hrl _ _) hF hr
  clear hr
  refine goes_oper_k rfl rfl (by k_ne) (fun K hK => ?_)
  go_simp
  refine hK _ _ ⟨?_, ?_⟩
  · rw [listed_nil (by simp [go_sem])]; exact hdq_idle _ _
  clear hK K
  try walk_nrm
  refine Goes.mono (n := 10 + k2 + 3) ?_ (by omega)
  refine Goes.call (hdq_terms (Cx0 Sh) Vn) (f := 8) (args := #[.tmp 25, .tmp 26]) (ats := #[24, 23]) rfl rfl (by k_ne) rfl (by simp only [List.map_toArray, List.map_cons, List.map_nil, Act.eval]; exact hk2 _ hF) (fun r w hv => ?_)
  clear hF
  obtain ⟨rfl, hF⟩ := hv
  try walk_nrm
  refine Goes.step rfl (fun w hr => ?_)
  replace hF := (hrl _ _) hF hr
  clear hr
  refine goes_oper_k rfl rfl (by k_ne) (fun K hK => ?_)
  go_simp
  refine hK _ _ ⟨?_, ?_⟩
  · rw [listed_nil (by simp [go_sem])]; exact hdq_idle _ _
  clear hK K
  try walk_nrm
  refine Goes.step rfl (fun w hr => ?_)
  replace hF := (hrl _ _) hF hr
  clear hr
  refine goes_oper_k rfl rfl (by k_ne) (fun K hK => ?_)
  go_simp
  refine hK _ _ ⟨?_, ?_⟩
  · rw [listed_nil (by simp [go_sem])]; exact hdq_idle _ _
  clear hK K
  try walk_nrm
  refine Goes.stop (fun w hr => ⟨_, ⟨?_, ?_, ?_, ?_, ?_⟩, rfl, hrl _ _ hF hr⟩) <;> rfl
set_option maxRecDepth 100000 in
set_option maxHeartbeats 4000000 in
theorem x_no (w : World) (hF : Q w) (T : Array Value) (hT : T.size = 71) (h29 : T[29]? = some (.bool true)) :
    Goes Try.prog mn (Ext Vn) (HDq (Cx0 Sh)) (fun g w => ∃ T', T'.size = 71 ∧ g = G (fAw undNs [.code body9]) (fNs T' (.inRegion opsNs3 (0 :: [1]) :: .code .ret :: .code restNs :: []) :: []) ∧ Q w) (20)
      (G (fNs T (.inRegion opsNs2 [] :: .code condNs :: .code restNs :: [])) []) w := by
  rw [arrG71 T hT]
  simp only [gv_of h29]
  simp only [fNs, fAw, opsNs1, opsNs2, opsNs3, opsNs5, opsNs10, opsNs11, condNs, cdNsL, cdNs10, cdNs5, restNs, bodyNs, bodyM, body9, yesNs, inner, rt, lf, opsOf, Try.f5, Option.getD_some]
  refine Goes.step rfl (fun w hr => ?_)
  replace hF := (hrl _ _) hF hr
  clear hr
  rw [stepG_region_end]
  simp only [goes_go]
  refine ⟨hdq_idle _ _, ?_⟩
  refine Goes.step rfl (fun w hr => ?_)
  replace hF := (hrl _ _) hF hr
  clear hr
  rw [stepG_cond (t := true) (by first | rfl | (simp [Act.eval]; omega))]
  simp only [goes_go, if_true, if_false, Bool.false_eq_true, ↓reduceIte]
  refine ⟨hdq_idle _ _, ?_⟩
  refine Goes.step rfl (fun w hr => ?_)
  replace hF := (hrl _ _) hF hr
  clear hr
  rw [stepG_seq]
  simp only [goes_go]
  refine ⟨hdq_idle _ _, ?_⟩
  refine Goes.step rfl (fun w hr => ?_)
  replace hF := (hrl _ _) hF hr
  clear hr
  rw [stepG_region]
  simp only [goes_go, List.size_toArray, List.length_cons, List.length_nil, Nat.reduceAdd, Nat.zero_add, List.range, List.range.loop]
  refine ⟨hdq_idle _ _, ?_⟩
  refine Goes.step rfl (fun w hr => ?_)
  replace hF := (hrl _ _) hF hr
  clear hr
  refine goes_call rfl rfl (by k_ne) rfl Try.func9 rfl rfl ⟨hdq_idle _ _, ?_⟩
  refine Goes.stop (fun w hr => ⟨#[gv T 0, gv T 1, gv T 2, gv T 3, gv T 4, gv T 5, gv T 6, gv T 7, gv T 8, gv T 9, gv T 10, gv T 11, gv T 12, gv T 13, gv T 14, gv T 15, gv T 16, gv T 17, gv T 18, gv T 19, gv T 20, gv T 21, gv T 22, gv T 23, gv T 24, gv T 25, gv T 26, gv T 27, gv T 28, .bool true, gv T 30, gv T 31, gv T 32, gv T 33, gv T 34, gv T 35, gv T 36, gv T 37, gv T 38, gv T 39, gv T 40, gv T 41, gv T 42, gv T 43, gv T 44, gv T 45, gv T 46, gv T 47, gv T 48, gv T 49, gv T 50, gv T 51, gv T 52, gv T 53, gv T 54, gv T 55, gv T 56, gv T 57, gv T 58, gv T 59, gv T 60, gv T 61, gv T 62, gv T 63, gv T 64, gv T 65, gv T 66, gv T 67, gv T 68, gv T 69, gv T 70], ?_, ?_, hrl _ _ hF hr⟩)
  · rfl
  · simp only [fAw, undNs, body9, Try.ntmps9, List.map_toArray, List.map_cons, List.map_nil, Act.eval, List.size_toArray, List.length_cons, List.length_nil, Nat.reduceAdd, Nat.reduceSub, Nat.sub_zero, Array.replicate_succ, Array.replicate_zero, List.push_toArray, List.append_toArray, List.nil_append, List.cons_append]
    rfl
set_option maxRecDepth 100000 in
set_option maxHeartbeats 4000000 in
theorem x_out0 (w : World) (hF : Q w) (T : Array Value) (hT : T.size = 71) :
    Goes Try.prog mn (Ext Vn) (HDq (Cx0 Sh)) (fun g w => ∃ T' k, T'[6]? = some (.bool true) ∧ g = G { fNs T' k with mode := .returning } [] ∧ Q w) (10)
      (G ((base 5).at (Act.put ⟨T, []⟩ ((opsNs3[0]?).bind (·.dst)) (.bool true)) (.inRegion opsNs3 [1] :: .code .ret :: .code restNs :: [])) []) w := by
  rw [arrG71 T hT]
  simp only [fNs, fAw, opsNs1, opsNs2, opsNs3, opsNs5, opsNs10, opsNs11, condNs, cdNsL, cdNs10, cdNs5, restNs, bodyNs, bodyM, body9, yesNs, inner, rt, lf, opsOf, Try.f5, Option.getD_some]
  walk_nrm
  refine Goes.step rfl (fun w hr => ?_)
  replace hF := (hrl _ _) hF hr
  clear hr
  refine goes_oper_k rfl rfl (by k_ne) (fun K hK => ?_)
  go_simp
  refine hK _ _ ⟨?_, ?_⟩
  · rw [listed_nil (by simp [go_sem])]; exact hdq_idle _ _
  clear hK K
  try walk_nrm
  refine Goes.step rfl (fun w hr => ?_)
  replace hF := (hrl _ _) hF hr
  clear hr
  rw [stepG_region_end]
  simp only [goes_go]
  refine ⟨hdq_idle _ _, ?_⟩
  refine Goes.step rfl (fun w hr => ?_)
  replace hF := (hrl _ _) hF hr
  clear hr
  rw [stepG_ret']
  simp only [goes_go]
  refine ⟨hdq_idle _ _, ?_⟩
  refine Goes.stop (fun w hr => ⟨_, _, ?_, rfl, hrl _ _ hF hr⟩)
  rfl
set_option maxRecDepth 100000 in
set_option maxHeartbeats 4000000 in
theorem x_yes {al ap aq : Option Addr} {np pcap nq qcap n lcap kc : Nat} {Rv : Value → World → Prop} (w : World) (hF : Q w) (T : Array Value) (hT : T.size = 71) (h2 : T[2]? = some (.slice al n lcap)) (h7 : T[7]? = some (.slice ap np pcap)) (h8 : T[8]? = some (.slice aq nq qcap)) (h29 : T[29]? = some (.bool false)) (hkc : ∀ w, Q w → CallsC Try.prog mn (Ext Vn) (HDq (Cx0 Sh)) 13 #[.slice aq nq qcap, .slice al n lcap] kc w (fun r w' => Q w' ∧ Rv r w')) (hRs : ∀ r w w', Rv r w → Ext Vn w w' → Rv r w') :
    Goes Try.prog mn (Ext Vn) (HDq (Cx0 Sh)) (fun g w => ∃ r T', (T'.size = 71 ∧ T'[2]? = some (.slice al n lcap) ∧ T'[7]? = some (.slice ap np pcap) ∧ T'[8]? = some (.slice aq nq qcap) ∧ T'[9]? = some (.slice none 0 0) ∧ T'[33]? = some r) ∧ g = G (fNs T' (.inRegion opsNs5 [3, 4] :: .code cdNsL :: .code cdNs10 :: [])) [] ∧ Q w ∧ Rv r w) (10 + kc + 3 + 30)
      (G (fNs T (.inRegion opsNs2 [] :: .code condNs :: .code restNs :: [])) []) w := by
  rw [arrG71 T hT]
  simp only [gv_of h2, gv_of h7, gv_of h8, gv_of h29]
  simp only [fNs, fAw, opsNs1, opsNs2, opsNs3, opsNs5, opsNs10, opsNs11, condNs, cdNsL, cdNs10, cdNs5, restNs, bodyNs, bodyM, body9, yesNs, inner, rt, lf, opsOf, Try.f5, Option.getD_some]
  refine Goes.step rfl (fun w hr => ?_)
  replace hF := (hrl _ _) hF hr
  clear hr
  rw [stepG_region_end]
  simp only [goes_go]
  refine ⟨hdq_idle _ _, ?_⟩
  refine Goes.step rfl (fun w hr => ?_)
  replace hF := (hrl _ _) hF hr
  clear hr
  rw [stepG_cond (t := false) (by first | rfl | (simp [Act.eval]; omega))]
  simp only [goes_go, if_true, if_false, Bool.false_eq_true, ↓reduceIte]
  refine ⟨hdq_idle _ _, ?_⟩
  refine Goes.step rfl (fun w hr => ?_)
  replace hF := (hrl _ _) hF hr
  clear hr
  rw [stepG_skip]
  simp only [goes_go]
  refine ⟨hdq_idle _ _, ?_⟩
  refine Goes.step rfl (fun w hr => ?_)
  replace hF := (hrl _ _) hF hr
  clear hr
  rw [stepG_seq]
  simp only [goes_go]
  refine ⟨hdq_idle _ _, ?_⟩
  refine Goes.step rfl (fun w hr => ?_)
  replace hF := (hrl _ _) hF hr
  clear hr
  rw [stepG_region]
  simp only [goes_go, List.size_toArray, List.length_cons, List.length_nil, Nat.reduceAdd, Nat.zero_add, List.range, List.range.loop]
  refine ⟨hdq_idle _ _, ?_⟩
  refine Goes.step rfl (fun w hr => ?_)
  replace hF := (hrl _ _) hF hr
  clear hr
  refine goes_oper_k rfl rfl (by k_ne) (fun K hK => ?_)
  go_simp
  refine hK _ _ ⟨?_, ?_⟩
  · rw [listed_nil (by simp [go_sem])]; exact hdq_idle _ _
  clear hK K
  try walk_nrm
  refine Goes.step rfl (fun w hr => ?_)
  replace hF := (hrl _ _) hF hr
  clear hr
  rw [stepG_region_end]
  simp only [goes_go]
  refine ⟨hdq_idle _ _, ?_⟩
  refine Goes.step rfl (fun w hr => ?_)
  replace hF := (hrl _ _) hF hr
  clear hr
  rw [stepG_seq]
  simp only [goes_go]
  refine ⟨hdq_idle _ _, ?_⟩
  refine Goes.step rfl (fun w hr => ?_)
  replace hF := (hrl _ _) hF hr
  clear hr
  rw [stepG_seq]
  simp only [goes_go]
  refine ⟨hdq_idle _ _, ?_⟩
  refine Goes.step rfl (fun w hr => ?_)
  replace hF := (hrl _ _) hF hr
  clear hr
  rw [stepG_region]
  simp only [goes_go, List.size_toArray, List.length_cons, List.length_nil, Nat.reduceAdd, Nat.zero_add, List.range, List.range.loop]
  refine ⟨hdq_idle _ _, ?_⟩
  refine Goes.step rfl (fun w hr => ?_)
  replace hF := (hrl _ _) hF hr
  clear hr
  refine goes_oper_k rfl rfl (by k_ne) (fun K hK => ?_)
  go_simp
  refine hK _ _ ⟨?_, ?_⟩
  · rw [listed_nil (by simp [go_sem])]; exact hdq_idle _ _
  clear hK K
  try walk_nrm
  refine Goes.step rfl (fun w hr => ?_)
  replace hF := (hrl _ _) hF hr
  clear hr
  refine goes_oper_k rfl rfl (by k_ne) (fun K hK => ?_)
  go_simp
  refine hK _ _ ⟨?_, ?_⟩
  · rw [listed_nil (by simp [go_sem])]; exact hdq_idle _ _
  clear hK K
  try walk_nrm
  refine Goes.mono (n := 10 + kc + 3) ?_ (by omega)
  refine Goes.call (hdq_terms (Cx0 Sh) Vn) (f := 13) (args := #[.tmp 31, .tmp 32]) (ats := #[24, 23]) rfl rfl (by k_ne) rfl (by simp only [List.map_toArray, List.map_cons, List.map_nil, Act.eval]; exact hkc _ hF) (fun r w hv => ?_)
  clear hF
  obtain ⟨hF, hR⟩ := hv
  try walk_nrm
  refine Goes.stop (fun w hr => ⟨r, _, ⟨?_, ?_, ?_, ?_, ?_, ?_⟩, rfl, hrl _ _ hF hr, hRs _ _ _ hR hr⟩) <;> rfl
set_option maxRecDepth 100000 in
set_option maxHeartbeats 4000000 in
theorem x_loop0 {al ap aq ae : Option Addr} {np pcap nq qcap n lcap ne ec : Nat} (w : World) (hF : Q w) (T : Array Value) (hT : T.size = 71) (h2 : T[2]? = some (.slice al n lcap)) (h7 : T[7]? = some (.slice ap np pcap)) (h8 : T[8]? = some (.slice aq nq qcap)) (h9 : T[9]? = some (.slice none 0 0)) (h33 : T[33]? = some (.slice ae ne ec)) :
    Goes Try.prog mn (Ext Vn) (HDq (Cx0 Sh)) (fun g w => ∃ T', (T'.size = 71 ∧ T'[2]? = some (.slice al n lcap) ∧ T'[7]? = some (.slice ap np pcap) ∧ T'[8]? = some (.slice aq nq qcap) ∧ T'[9]? = some (.slice none 0 0) ∧ T'[33]? = some (.slice ae ne ec) ∧ T'[34]? = some (.int .i64 ne) ∧ T'[35]? = some (.int .i64 0)) ∧ g = G (fNs T' (.code cdNsL :: .code cdNs10 :: [])) [] ∧ Q w) (20)
      (G (fNs T (.inRegion opsNs5 [3, 4] :: .code cdNsL :: .code cdNs10 :: [])) []) w := by
  rw [arrG71 T hT]
  simp only [gv_of h2, gv_of h7, gv_of h8, gv_of h9, gv_of h33]
  simp only [fNs, fAw, opsNs1, opsNs2, opsNs3, opsNs5, opsNs10, opsNs11, condNs, cdNsL, cdNs10, cdNs5, restNs, bodyNs, bodyM, body9, yesNs, inner, rt, lf, opsOf, Try.f5, Option.getD_some]
  refine Goes.step rfl (fun w hr => ?_)
  replace hF := (hrl _ _) hF hr
  clear hr
  refine goes_oper_k rfl rfl (by k_ne) (fun K hK => ?_)
  go_simp
  refine hK _ _ ⟨?_, ?_⟩
  · rw [listed_nil (by simp [go_sem])]; exact hdq_idle _ _
  clear hK K
  try walk_nrm
  refine Goes.step rfl (fun w hr => ?_)
  replace hF := (hrl _ _) hF hr
  clear hr
  refine goes_oper_k rfl rfl (by k_ne) (fun K hK => ?_)
  go_simp
  refine hK _ _ ⟨?_, ?_⟩
  · rw [listed_nil (by simp [go_sem])]; exact hdq_idle _ _
  clear hK K
  try walk_nrm
  refine Goes.step rfl (fun w hr => ?_)
  replace hF := (hrl _ _) hF hr
  clear hr
  rw [stepG_region_end]
  simp only [goes_go]
  refine ⟨hdq_idle _ _, ?_⟩
  refine Goes.stop (fun w hr => ⟨_, ⟨?_, ?_, ?_, ?_, ?_, ?_, ?_, ?_⟩, rfl, hrl _ _ hF hr⟩) <;> rfl
set_option maxRecDepth 100000 in
set_option maxHeartbeats 4000000 in
theorem x_awk {u s7 s9 : Value} (w : World) (hF : Q w) (T : Array Value) (hT : T.size = 71) (h7 : T[7]? = some s7) (h9 : T[9]? = some s9) :
    Goes Try.prog mn (Ext Vn) (HDq (Cx0 Sh)) (fun g w => ∃ T', (T'.size = 71 ∧ T'[7]? = some s7 ∧ T'[9]? = some s9 ∧ T'[12]? = some u ∧ T'[13]? = some (.int .i64 0)) ∧ g = G (fAw undNs [.code body9]) (fNs T' (.inRegion opsNs11 (0 :: [1, 2, 3, 4, 5, 6, 7, 8, 9, 10, 11, 12, 13, 14]) :: .code .ret :: []) :: []) ∧ Q w) (30)
      (G ((base 5).at (Act.put ⟨T, []⟩ ((opsNs10[8]?).bind (·.dst)) (.tuple #[u, .int .i64 0])) (.inRegion opsNs10 [9, 10, 11, 12, 13] :: .code (rt cdNs10) :: [])) []) w := by
  rw [arrG71 T hT]
  simp only [gv_of h7, gv_of h9]
  simp only [fNs, fAw, opsNs1, opsNs2, opsNs3, opsNs5, opsNs10, opsNs11, condNs, cdNsL, cdNs10, cdNs5, restNs, bodyNs, bodyM, body9, yesNs, inner, rt, lf, opsOf, Try.f5, Option.getD_some]
  walk_nrm
  refine Goes.step rfl (fun w hr => ?_)
  replace hF := (hrl _ _) hF hr
  clear hr
  refine goes_oper_k rfl rfl (by k_ne) (fun K hK => ?_)
  go_simp
  refine hK _ _ ⟨?_, ?_⟩
  · rw [listed_nil (by simp [go_sem])]; exact hdq_idle _ _
  clear hK K
  try walk_nrm
  refine Goes.step rfl (fun w hr => ?_)
  replace hF := (hrl _ _) hF hr
  clear hr
  refine goes_oper_k rfl rfl (by k_ne) (fun K hK => ?_)
  go_simp
  refine hK _ _ ⟨?_, ?_⟩
  · rw [listed_nil (by simp [go_sem])]; exact hdq_idle _ _
  clear hK K
  try walk_nrm
  refine Goes.step rfl (fun w hr => ?_)
  replace hF := (hrl _ _) hF hr
  clear hr
  refine goes_oper_k rfl rfl (by k_ne) (fun K hK => ?_)
  go_simp
  refine hK _ _ ⟨?_, ?_⟩
  · rw [listed_nil (by simp [go_sem])]; exact hdq_idle _ _
  clear hK K
  try walk_nrm
  refine Goes.step rfl (fun w hr => ?_)
  replace hF := (hrl _ _) hF hr
  clear hr
  refine goes_oper_k rfl rfl (by k_ne) (fun K hK => ?_)
  go_simp
  refine hK _ _ ⟨?_, ?_⟩
  · rw [listed_nil (by simp [go_sem])]; exact hdq_idle _ _
  clear hK K
  try walk_nrm
  refine Goes.step rfl (fun w hr => ?_)
  replace hF := (hrl _ _) hF hr
  clear hr
  refine goes_oper_k rfl rfl (by k_ne) (fun K hK => ?_)
  go_simp
  refine hK _ _ ⟨?_, ?_⟩
  · rw [listed_nil (by simp [go_sem])]; exact hdq_idle _ _
  clear hK K
  try walk_nrm
  refine Goes.step rfl (fun w hr => ?_)
  replace hF := (hrl _ _) hF hr
  clear hr
  rw [stepG_region_end]
  simp only [goes_go]
  refine ⟨hdq_idle _ _, ?_⟩
  refine Goes.step rfl (fun w hr => ?_)
  replace hF := (hrl _ _) hF hr
  clear hr
  rw [stepG_seq]
  simp only [goes_go]
  refine ⟨hdq_idle _ _, ?_⟩
  refine Goes.step rfl (fun w hr => ?_)
  replace hF := (hrl _ _) hF hr
  clear hr
  rw [stepG_region]
  simp only [goes_go, List.size_toArray, List.length_cons, List.length_nil, Nat.reduceAdd, Nat.zero_add, List.range, List.range.loop]
  refine ⟨hdq_idle _ _, ?_⟩
  refine Goes.step rfl (fun w hr => ?_)
  replace hF := (hrl _ _) hF hr
  clear hr
  refine goes_call rfl rfl (by k_ne) rfl Try.func9 rfl rfl ⟨hdq_idle _ _, ?_⟩
  refine Goes.stop (fun w hr => ⟨#[gv T 0, gv T 1, gv T 2, gv T 3, gv T 4, gv T 5, gv T 6, s7, gv T 8, s9, gv T 10, gv T 11, u, .int .i64 0, gv T 14, gv T 15, gv T 16, gv T 17, gv T 18, gv T 19, gv T 20, gv T 21, gv T 22, gv T 23, gv T 24, gv T 25, gv T 26, gv T 27, gv T 28, gv T 29, gv T 30, gv T 31, gv T 32, gv T 33, gv T 34, gv T 35, gv T 36, gv T 37, gv T 38, gv T 39, gv T 40, gv T 41, gv T 42, gv T 43, gv T 44, .tuple #[u, .int .i64 0], gv T 46, gv T 47, gv T 48, gv T 49, gv T 50, gv T 51, gv T 52, gv T 53, .tuple #[u, .int .i64 0], u, .int .i64 0, gv T 57, gv T 58, gv T 59, gv T 60, gv T 61, gv T 62, gv T 63, gv T 64, gv T 65, gv T 66, gv T 67, gv T 68, gv T 69, gv T 70], ⟨?_, ?_, ?_, ?_, ?_⟩, ?_, hrl _ _ hF hr⟩)
  · rfl
  · rfl
  · rfl
  · rfl
  · rfl
  · simp only [fAw, undNs, body9, Try.ntmps9, List.map_toArray, List.map_cons, List.map_nil, Act.eval, List.size_toArray, List.length_cons, List.length_nil, Nat.reduceAdd, Nat.reduceSub, Nat.sub_zero, Array.replicate_succ, Array.replicate_zero, List.push_toArray, List.append_toArray, List.nil_append, List.cons_append]
    rfl
set_option maxRecDepth 100000 in
set_option maxHeartbeats 4000000 in
theorem x_ref {ap lb : Option Addr} {np pcap nl lc kc : Nat} {u : Value} {Rv : Value → World → Prop} (w : World) (hF : Q w) (T : Array Value) (hT : T.size = 71) (h62 : T[62]? = some (.bool true)) (h63 : T[63]? = some u) (h64 : T[64]? = some (.slice ap np pcap)) (h67 : T[67]? = some (.slice lb nl lc)) (hkc : ∀ w, Q w → CallsC Try.prog mn (Ext Vn) (HDq (Cx0 Sh)) 13 #[.slice ap np pcap, .slice lb nl lc] kc w (fun r w' => Q w' ∧ Rv r w')) (hRs : ∀ r w w', Rv r w → Ext Vn w w' → Rv r w') :
    Goes Try.prog mn (Ext Vn) (HDq (Cx0 Sh)) (fun g w => ∃ r T', (T'.size = 71 ∧ T'[62]? = some (.bool true) ∧ T'[63]? = some u ∧ T'[68]? = some r) ∧ g = G (fNs T' (.inRegion opsNs11 [12, 13, 14] :: .code .ret :: [])) [] ∧ Q w ∧ Rv r w) (10 + kc + 3 + 10)
      (G (fNs T (.inRegion opsNs11 [11, 12, 13, 14] :: .code .ret :: [])) []) w := by
  rw [arrG71 T hT]
  simp only [gv_of h62, gv_of h63, gv_of h64, gv_of h67]
  simp only [fNs, fAw, opsNs1, opsNs2, opsNs3, opsNs5, opsNs10, opsNs11, condNs, cdNsL, cdNs10, cdNs5, restNs, bodyNs, bodyM, body9, yesNs, inner, rt, lf, opsOf, Try.f5, Option.getD_some]
  refine Goes.mono (n := 10 + kc + 3) ?_ (by omega)
  refine Goes.call (hdq_terms (Cx0 Sh) Vn) (f := 13) (args := #[.tmp 64, .tmp 67]) (ats := #[24, 23]) rfl rfl (by k_ne) rfl (by simp only [List.map_toArray, List.map_cons, List.map_nil, Act.eval]; exact hkc _ hF) (fun r w hv => ?_)
  clear hF
  obtain ⟨hF, hR⟩ := hv
  try walk_nrm
  refine Goes.stop (fun w hr => ⟨r, _, ⟨?_, ?_, ?_, ?_⟩, rfl, hrl _ _ hF hr, hRs _ _ _ hR hr⟩) <;> rfl
set_option maxRecDepth 100000 in
set_option maxHeartbeats 4000000 in
theorem x_out {u v : Value} {kc : Nat} (w : World) (hF : Q w) (T : Array Value) (hT : T.size = 71) (h62 : T[62]? = some (.bool true)) (h63 : T[63]? = some u) (h68 : T[68]? = some v) (hkc : ∀ w, Q w → CallsC Try.prog mn (Ext Vn) (HDq (Cx0 Sh)) 12 #[u, v] kc w (fun r w' => r = .bool true ∧ Q w')) :
    Goes Try.prog mn (Ext Vn) (HDq (Cx0 Sh)) (fun g w => ∃ T' k, T'[6]? = some (.bool true) ∧ g = G { fNs T' k with mode := .returning } [] ∧ Q w) (10 + kc + 3 + 20)
      (G (fNs T (.inRegion opsNs11 [12, 13, 14] :: .code .ret :: [])) []) w := by
  rw [arrG71 T hT]
  simp only [gv_of h62, gv_of h63, gv_of h68]
  simp only [fNs, fAw, opsNs1, opsNs2, opsNs3, opsNs5, opsNs10, opsNs11, condNs, cdNsL, cdNs10, cdNs5, restNs, bodyNs, bodyM, body9, yesNs, inner, rt, lf, opsOf, Try.f5, Option.getD_some]
  refine Goes.mono (n := 10 + kc + 3) ?_ (by omega)
  refine Goes.call (hdq_terms (Cx0 Sh) Vn) (f := 12) (args := #[.tmp 63, .tmp 68]) (ats := #[28, 35]) rfl rfl (by k_ne) rfl (by simp only [List.map_toArray, List.map_cons, List.map_nil, Act.eval]; exact hkc _ hF) (fun r w hv => ?_)
  clear hF
  obtain ⟨rfl, hF⟩ := hv
  try walk_nrm
  refine Goes.step rfl (fun w hr => ?_)
  replace hF := (hrl _ _) hF hr
  clear hr
  refine goes_oper_k rfl rfl (by k_ne) (fun K hK => ?_)
  go_simp
  refine hK _ _ ⟨?_, ?_⟩
  · rw [listed_nil (by simp [go_sem])]; exact hdq_idle _ _
  clear hK K
  try walk_nrm
  refine Goes.step rfl (fun w hr => ?_)
  replace hF := (hrl _ _) hF hr
  clear hr
  refine goes_oper_k rfl rfl (by k_ne) (fun K hK => ?_)
  go_simp
  refine hK _ _ ⟨?_, ?_⟩
  · rw [listed_nil (by simp [go_sem])]; exact hdq_idle _ _
  clear hK K
  try walk_nrm
  refine Goes.step rfl (fun w hr => ?_)
  replace hF := (hrl _ _) hF hr
  clear hr
  rw [stepG_region_end]
  simp only [goes_go]
  refine ⟨hdq_idle _ _, ?_⟩
  refine Goes.step rfl (fun w hr => ?_)
  replace hF := (hrl _ _) hF hr
  clear hr
  rw [stepG_ret']
  simp only [goes_go]
  refine ⟨hdq_idle _ _, ?_⟩
  refine Goes.stop (fun w hr => ⟨_, _, ?_, rfl, hrl _ _ hF hr⟩)
  rfl
end
abbrev strX : ByteArray := strX0
abbrev strY : ByteArray := strY0
theorem nestInfo : ∃ it, Try.prog.info? 43 = some it ∧ it.zero = some (.agg #[.slice none 0 0, .slice none 0 0]) := by
  have h : (Try.prog.info? 43).map (fun i => i.zero) = some (some (.agg #[.slice none 0 0, .slice none 0 0])) := by kernel_rfl
  obtain ⟨i, hi, hb⟩ := Option.map_eq_some_iff.1 h
  exact ⟨i, hi, hb⟩
theorem bNe (a b : Option Addr) (n c n' c' : Nat) (w : World) : (Instr.build 43 #[(0, .slice a n c), (1, .slice b n' c')]).run Try.prog w = .ok (.agg #[.slice a n c, .slice b n' c']) w := run_build w _ _ _ (by kernel_rfl)
theorem bNeE (a b : Option Addr) (n c n' c' : Nat) (w : World) (es : Array Event) : (Instr.build 43 #[(0, .slice a n c), (1, .slice b n' c')]).events Try.prog w es = es := by
  obtain ⟨it, hit, h1⟩ := nestInfo
  obtain ⟨i3, h3, g3⟩ : ∃ it, Try.prog.info? 24 = some it ∧ it.size = 1 := by
    have h : (Try.prog.info? 24).map (·.size) = some 1 := by kernel_rfl
    obtain ⟨i, hi, hb⟩ := Option.map_eq_some_iff.1 h
    exact ⟨i, hi, hb⟩
  obtain ⟨i9, h9, g9⟩ : ∃ it, Try.prog.info? 23 = some it ∧ it.size = 1 := by
    have h : (Try.prog.info? 23).map (·.size) = some 1 := by kernel_rfl
    obtain ⟨i, hi, hb⟩ := Option.map_eq_some_iff.1 h
    exact ⟨i, hi, hb⟩
  simp [Instr.build, go_sem, sizeOf, typeInfo, zeroValue, hit, h1, h3, g3, h9, g9]
theorem mkNeE (x : Value) (w : World) (es : Array Event) : (Instr.makeInterface 43 x).events Try.prog w es = es := by
  simp [Instr.makeInterface, go_sem, Try.underlying43]
theorem bT2 (x y : Value) (w : World) : (Instr.buildSlice 32 2 #[(0, .iface 43 x), (1, .iface 44 y)]).run Try.prog w = .ok (.slice (some ⟨w.heap.size, 0, none⟩) 2 2) (w.alloc (.cells #[.iface 43 x, .iface 44 y] 50)) := by
  obtain ⟨it, hit, h1, h2, _⟩ := tkInfo
  refine run_buildSlice w _ _ 2 _ _ it _ (by kernel_rfl) hit h1 (by rw [h2]; omega) (by rw [h2]; omega) ?_
  rw [h2]
  kernel_rfl
theorem bT2E (x y : Value) (w : World) (es : Array Event) : (Instr.buildSlice 32 2 #[(0, .iface 43 x), (1, .iface 44 y)]).events Try.prog w es = es := by
  obtain ⟨it, hit, h1, h2, _⟩ := tkInfo
  simp [Instr.buildSlice, go_sem, sizeOf, typeInfo, zeroValue, hit, h1, h2]
theorem bN2 (x y : ByteArray) (w : World) : (Instr.buildSlice 44 2 #[(0, .string x), (1, .string y)]).run Try.prog w = .ok (.slice (some ⟨w.heap.size, 0, none⟩) 2 2) (w.alloc (.cells #[.string x, .string y] 9)) := by
  obtain ⟨it, hit, h1, h2⟩ := strInfo
  refine run_buildSlice w _ _ 2 _ _ it _ (by kernel_rfl) hit h1 (by rw [h2]; omega) (by rw [h2]; omega) ?_
  rw [h2]
  kernel_rfl
theorem bN2E (x y : ByteArray) (w : World) (es : Array Event) : (Instr.buildSlice 44 2 #[(0, .string x), (1, .string y)]).events Try.prog w es = es := by
  obtain ⟨it, hit, h1, h2⟩ := strInfo
  simp [Instr.buildSlice, go_sem, sizeOf, typeInfo, zeroValue, hit, h1, h2, Try.underlying44]
section
variable {Sh : Loc → Prop} {W : World} {mn : Bool}
abbrev KnX (W : World) (sb tb : Nat) (nv : Value) : World → Prop := Kn Vn W [(tb, Obj.cells #[.iface 43 nv, .iface 44 (.slice (some ⟨sb, 0, none⟩) 2 2)] 50 (0, 0)), (sb, Obj.cells #[.string strX, .string strY] 9 (0, 0))]
abbrev KnY (W : World) (sb lb : Nat) (s9 : Value) : World → Prop := Kn Vn W [(lb, Obj.cells #[s9, .slice (some ⟨sb, 0, none⟩) 2 2] 38 (0, 0)), (sb, Obj.cells #[.string strX, .string strY] 9 (0, 0))]
set_option maxRecDepth 100000 in
set_option maxHeartbeats 4000000 in
theorem x_run {al ap aq : Option Addr} {np pcap nq qcap n lcap : Nat} {s9 : Value} (w : World) (hF : Kn Vn W [] w) (T : Array Value) (hT : T.size = 71) (h2 : T[2]? = some (.slice al n lcap)) (h7 : T[7]? = some (.slice ap np pcap)) (h8 : T[8]? = some (.slice aq nq qcap)) (h9 : T[9]? = some s9) :
    Goes Try.prog mn (Ext Vn) (HDq (Cx0 Sh)) (fun g w => ∃ sb tb T', (T'.size = 71 ∧ T'[7]? = some (.slice ap np pcap) ∧ T'[9]? = some s9) ∧ g = G (fRun (entryT (.slice ap np pcap) (.slice (some ⟨tb, 0, none⟩) 2 2)) [.code bodyM]) (fNs T' (.inRegion opsNs10 (8 :: [9, 10, 11, 12, 13]) :: .code (rt cdNs10) :: []) :: []) ∧ KnX W sb tb (.agg #[.slice aq nq qcap, .slice al n lcap]) w) (40)
      (G (fNs T (.code cdNs10 :: [])) []) w := by
  rw [arrG71 T hT]
  simp only [gv_of h2, gv_of h7, gv_of h8, gv_of h9]
  simp only [fNs, fAw, opsNs1, opsNs2, opsNs3, opsNs5, opsNs10, opsNs11, condNs, cdNsL, cdNs10, cdNs5, restNs, bodyNs, bodyM, body9, yesNs, inner, rt, lf, opsOf, Try.f5, Option.getD_some]
  refine Goes.step rfl (fun w hr => ?_)
  replace hF := (fun h r => Kn.rl (fun _ _ h => h) h r) hF hr
  clear hr
  rw [stepG_seq]
  simp only [goes_go]
  refine ⟨hdq_idle _ _, ?_⟩
  refine Goes.step rfl (fun w hr => ?_)
  replace hF := (fun h r => Kn.rl (fun _ _ h => h) h r) hF hr
  clear hr
  rw [stepG_region]
  simp only [goes_go, List.size_toArray, List.length_cons, List.length_nil, Nat.reduceAdd, Nat.zero_add, List.range, List.range.loop]
  refine ⟨hdq_idle _ _, ?_⟩
  refine Goes.step rfl (fun w hr => ?_)
  replace hF := (fun h r => Kn.rl (fun _ _ h => h) h r) hF hr
  clear hr
  refine goes_oper_k rfl rfl (by k_ne) (fun K hK => ?_)
  go_simp
  refine hK _ _ ⟨?_, ?_⟩
  · rw [listed_nil (by simp [go_sem])]; exact hdq_idle _ _
  clear hK K
  try walk_nrm
  refine Goes.step rfl (fun w hr => ?_)
  replace hF := (fun h r => Kn.rl (fun _ _ h => h) h r) hF hr
  clear hr
  refine goes_oper_k rfl rfl (by k_ne) (fun K hK => ?_)
  go_simp
  refine hK _ _ ⟨?_, ?_⟩
  · rw [listed_nil (by simp [go_sem])]; exact hdq_idle _ _
  clear hK K
  try walk_nrm
  refine Goes.step rfl (fun w hr => ?_)
  replace hF := (fun h r => Kn.rl (fun _ _ h => h) h r) hF hr
  clear hr
  refine goes_oper_k rfl rfl (by k_ne) (fun K hK => ?_)
  go_simp
  refine hK _ _ ⟨?_, ?_⟩
  · rw [listed_nil (by simp [go_sem])]; exact hdq_idle _ _
  clear hK K
  try walk_nrm
  refine Goes.step rfl (fun w hr => ?_)
  replace hF := (fun h r => Kn.rl (fun _ _ h => h) h r) hF hr
  clear hr
  have hm := bNe aq al nq qcap n lcap
  have hm' := bNeE aq al nq qcap n lcap
  refine goes_oper_k rfl rfl (by k_ne) (fun K hK => ?_)
  go_simp
  refine hK _ _ ⟨?_, ?_⟩
  · rw [listed_nil (by simp [go_sem, *])]; exact hdq_idle _ _
  clear hK K hm hm'
  try walk_nrm
  refine Goes.step rfl (fun w hr => ?_)
  replace hF := (fun h r => Kn.rl (fun _ _ h => h) h r) hF hr
  clear hr
  have hm := mkNeE
  have hm' := hm
  refine goes_oper_k rfl rfl (by k_ne) (fun K hK => ?_)
  go_simp
  refine hK _ _ ⟨?_, ?_⟩
  · rw [listed_nil (by simp [go_sem, *])]; exact hdq_idle _ _
  clear hK K hm hm'
  try walk_nrm
  refine Goes.step rfl (fun w hr => ?_)
  replace hF := (fun h r => Kn.rl (fun _ _ h => h) h r) hF hr
  clear hr
  have hm := bN2 strX strY
  have hm' := bN2E strX strY
  refine goes_oper_k rfl rfl (by k_ne) (fun K hK => ?_)
  go_simp
  refine hK _ _ ⟨?_, ?_⟩
  · rw [listed_nil (by simp [go_sem, *])]
    exact al_hd (by simp)
  clear hK K
  try walk_nrm
  clear hm hm'
  replace hF := hF.alloc (Obj.cells #[.string strX, .string strY] 9 (0, 0))
  generalize w.heap.size = sb at *
  generalize w.alloc (Obj.cells #[.string strX, .string strY] 9 (0, 0)) = w at *
  refine Goes.step rfl (fun w hr => ?_)
  replace hF := (fun h r => Kn.rl (fun _ _ h => h) h r) hF hr
  clear hr
  have hm := mkiE
  have hm' := hm
  refine goes_oper_k rfl rfl (by k_ne) (fun K hK => ?_)
  go_simp
  refine hK _ _ ⟨?_, ?_⟩
  · rw [listed_nil (by simp [go_sem, *])]; exact hdq_idle _ _
  clear hK K hm hm'
  try walk_nrm
  refine Goes.step rfl (fun w hr => ?_)
  replace hF := (fun h r => Kn.rl (fun _ _ h => h) h r) hF hr
  clear hr
  have hm := bT2 (.agg #[.slice aq nq qcap, .slice al n lcap]) (.slice (some ⟨sb, 0, none⟩) 2 2)
  have hm' := bT2E (.agg #[.slice aq nq qcap, .slice al n lcap]) (.slice (some ⟨sb, 0, none⟩) 2 2)
  refine goes_oper_k rfl rfl (by k_ne) (fun K hK => ?_)
  go_simp
  refine hK _ _ ⟨?_, ?_⟩
  · rw [listed_nil (by simp [go_sem, *])]
    exact al_hd (by simp)
  clear hK K
  try walk_nrm
  clear hm hm'
  replace hF := hF.alloc (Obj.cells #[.iface 43 (.agg #[.slice aq nq qcap, .slice al n lcap]), .iface 44 (.slice (some ⟨sb, 0, none⟩) 2 2)] 50 (0, 0))
  generalize w.heap.size = tb at *
  generalize w.alloc (Obj.cells #[.iface 43 (.agg #[.slice aq nq qcap, .slice al n lcap]), .iface 44 (.slice (some ⟨sb, 0, none⟩) 2 2)] 50 (0, 0)) = w at *
  refine Goes.step rfl (fun w hr => ?_)
  replace hF := (fun h r => Kn.rl (fun _ _ h => h) h r) hF hr
  clear hr
  refine goes_call rfl rfl (by k_ne) rfl Try.func10 rfl rfl ⟨hdq_idle _ _, ?_⟩
  refine Goes.stop (fun w hr => ⟨sb, tb, #[gv T 0, gv T 1, .slice al n lcap, gv T 3, gv T 4, gv T 5, gv T 6, .slice ap np pcap, .slice aq nq qcap, s9, gv T 10, gv T 11, gv T 12, gv T 13, gv T 14, gv T 15, gv T 16, gv T 17, gv T 18, gv T 19, gv T 20, gv T 21, gv T 22, gv T 23, gv T 24, gv T 25, gv T 26, gv T 27, gv T 28, gv T 29, gv T 30, gv T 31, gv T 32, gv T 33, gv T 34, gv T 35, gv T 36, gv T 37, gv T 38, gv T 39, gv T 40, gv T 41, gv T 42, gv T 43, gv T 44, gv T 45, .slice ap np pcap, .slice aq nq qcap, .slice al n lcap, .agg #[.slice aq nq qcap, .slice al n lcap], .iface 43 (.agg #[.slice aq nq qcap, .slice al n lcap]), .slice (some ⟨sb, 0, none⟩) 2 2, .iface 44 (.slice (some ⟨sb, 0, none⟩) 2 2), .slice (some ⟨tb, 0, none⟩) 2 2, gv T 54, gv T 55, gv T 56, gv T 57, gv T 58, gv T 59, gv T 60, gv T 61, gv T 62, gv T 63, gv T 64, gv T 65, gv T 66, gv T 67, gv T 68, gv T 69, gv T 70], ⟨?_, ?_, ?_⟩, ?_, hF.rl (fun _ _ h => h) hr⟩)
  · rfl
  · rfl
  · rfl
  · simp only [fRun, entryT, bodyM, Try.ntmps10, List.map_toArray, List.map_cons, List.map_nil, Act.eval, List.size_toArray, List.length_cons, List.length_nil, Nat.reduceAdd, Nat.reduceSub, Array.replicate_succ, Array.replicate_zero, List.push_toArray, List.append_toArray, List.nil_append, List.cons_append]
    rfl
set_option maxRecDepth 100000 in
set_option maxHeartbeats 4000000 in
theorem x_mid {ap a9 : Option Addr} {np pcap n9 c9 : Nat} {u : Value} (w : World) (hF : Kn Vn W [] w) (T : Array Value) (hT : T.size = 71) (h7 : T[7]? = some (.slice ap np pcap)) (h9 : T[9]? = some (.slice a9 n9 c9)) (h12 : T[12]? = some u) (h13 : T[13]? = some (.int .i64 0)) :
    Goes Try.prog mn (Ext Vn) (HDq (Cx0 Sh)) (fun g w => ∃ sb lb T', (T'.size = 71 ∧ T'[62]? = some (.bool true) ∧ T'[63]? = some u ∧ T'[64]? = some (.slice ap np pcap) ∧ T'[67]? = some (.slice (some ⟨lb, 0, none⟩) 2 2)) ∧ g = G (fNs T' (.inRegion opsNs11 [11, 12, 13, 14] :: .code .ret :: [])) [] ∧ KnY W sb lb (.slice a9 n9 c9) w) (40)
      (G ((base 5).at (Act.put ⟨T, []⟩ ((opsNs11[0]?).bind (·.dst)) (.bool true)) (.inRegion opsNs11 [1, 2, 3, 4, 5, 6, 7, 8, 9, 10, 11, 12, 13, 14] :: .code .ret :: [])) []) w := by
  rw [arrG71 T hT]
  simp only [gv_of h7, gv_of h9, gv_of h12, gv_of h13]
  simp only [fNs, fAw, opsNs1, opsNs2, opsNs3, opsNs5, opsNs10, opsNs11, condNs, cdNsL, cdNs10, cdNs5, restNs, bodyNs, bodyM, body9, yesNs, inner, rt, lf, opsOf, Try.f5, Option.getD_some]
  walk_nrm
  refine Goes.step rfl (fun w hr => ?_)
  replace hF := (fun h r => Kn.rl (fun _ _ h => h) h r) hF hr
  clear hr
  refine goes_oper_k rfl rfl (by k_ne) (fun K hK => ?_)
  go_simp
  refine hK _ _ ⟨?_, ?_⟩
  · rw [listed_nil (by simp [go_sem])]; exact hdq_idle _ _
  clear hK K
  try walk_nrm
  refine Goes.step rfl (fun w hr => ?_)
  replace hF := (fun h r => Kn.rl (fun _ _ h => h) h r) hF hr
  clear hr
  refine goes_oper_k rfl rfl (by k_ne) (fun K hK => ?_)
  go_simp
  refine hK _ _ ⟨?_, ?_⟩
  · rw [listed_nil (by simp [go_sem])]; exact hdq_idle _ _
  clear hK K
  try walk_nrm
  refine Goes.step rfl (fun w hr => ?_)
  replace hF := (fun h r => Kn.rl (fun _ _ h => h) h r) hF hr
  clear hr
  refine goes_oper_k rfl rfl (by k_ne) (fun K hK => ?_)
  go_simp
  refine hK _ _ ⟨?_, ?_⟩
  · rw [listed_nil (by simp [go_sem])]; exact hdq_idle _ _
  clear hK K
  try walk_nrm
  refine Goes.step rfl (fun w hr => ?_)
  replace hF := (fun h r => Kn.rl (fun _ _ h => h) h r) hF hr
  clear hr
  refine goes_oper_k rfl rfl (by k_ne) (fun K hK => ?_)
  go_simp
  refine hK _ _ ⟨?_, ?_⟩
  · rw [listed_nil (by simp [go_sem])]; exact hdq_idle _ _
  clear hK K
  try walk_nrm
  refine Goes.step rfl (fun w hr => ?_)
  replace hF := (fun h r => Kn.rl (fun _ _ h => h) h r) hF hr
  clear hr
  refine goes_oper_k rfl rfl (by k_ne) (fun K hK => ?_)
  go_simp
  refine hK _ _ ⟨?_, ?_⟩
  · rw [listed_nil (by simp [go_sem])]; exact hdq_idle _ _
  clear hK K
  try walk_nrm
  refine Goes.step rfl (fun w hr => ?_)
  replace hF := (fun h r => Kn.rl (fun _ _ h => h) h r) hF hr
  clear hr
  refine goes_oper_k rfl rfl (by k_ne) (fun K hK => ?_)
  go_simp
  refine hK _ _ ⟨?_, ?_⟩
  · rw [listed_nil (by simp [go_sem])]; exact hdq_idle _ _
  clear hK K
  try walk_nrm
  refine Goes.step rfl (fun w hr => ?_)
  replace hF := (fun h r => Kn.rl (fun _ _ h => h) h r) hF hr
  clear hr
  refine goes_oper_k rfl rfl (by k_ne) (fun K hK => ?_)
  go_simp
  refine hK _ _ ⟨?_, ?_⟩
  · rw [listed_nil (by simp [go_sem])]; exact hdq_idle _ _
  clear hK K
  try walk_nrm
  refine Goes.step rfl (fun w hr => ?_)
  replace hF := (fun h r => Kn.rl (fun _ _ h => h) h r) hF hr
  clear hr
  refine goes_oper_k rfl rfl (by k_ne) (fun K hK => ?_)
  go_simp
  refine hK _ _ ⟨?_, ?_⟩
  · rw [listed_nil (by simp [go_sem])]; exact hdq_idle _ _
  clear hK K
  try walk_nrm
  refine Goes.step rfl (fun w hr => ?_)
  replace hF := (fun h r => Kn.rl (fun _ _ h => h) h r) hF hr
  clear hr
  have hm := bS2 strX strY
  have hm' := bS2E strX strY
  refine goes_oper_k rfl rfl (by k_ne) (fun K hK => ?_)
  go_simp
  refine hK _ _ ⟨?_, ?_⟩
  · rw [listed_nil (by simp [go_sem, *])]
    exact al_hd (by simp)
  clear hK K
  try walk_nrm
  clear hm hm'
  replace hF := hF.alloc (Obj.cells #[.string strX, .string strY] 9 (0, 0))
  generalize w.heap.size = sb at *
  generalize w.alloc (Obj.cells #[.string strX, .string strY] 9 (0, 0)) = w at *
  refine Goes.step rfl (fun w hr => ?_)
  replace hF := (fun h r => Kn.rl (fun _ _ h => h) h r) hF hr
  clear hr
  have hm := bL2 a9 (some ⟨sb, 0, none⟩) n9 c9 2 2
  have hm' := bL2E a9 (some ⟨sb, 0, none⟩) n9 c9 2 2
  refine goes_oper_k rfl rfl (by k_ne) (fun K hK => ?_)
  go_simp
  refine hK _ _ ⟨?_, ?_⟩
  · rw [listed_nil (by simp [go_sem, *])]
    exact al_hd (by simp)
  clear hK K
  try walk_nrm
  clear hm hm'
  replace hF := hF.alloc (Obj.cells #[.slice a9 n9 c9, .slice (some ⟨sb, 0, none⟩) 2 2] 38 (0, 0))
  generalize w.heap.size = lb at *
  generalize w.alloc (Obj.cells #[.slice a9 n9 c9, .slice (some ⟨sb, 0, none⟩) 2 2] 38 (0, 0)) = w at *
  refine Goes.stop (fun w hr => ⟨sb, lb, _, ⟨?_, ?_, ?_, ?_, ?_⟩, rfl, hF.rl (fun _ _ h => h) hr⟩) <;> rfl
end
end
end Go.Proofs.Ytggfcdhkgldbfaa
