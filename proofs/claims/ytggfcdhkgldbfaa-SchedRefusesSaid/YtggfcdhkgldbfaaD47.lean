/-
  PARTS of a claim, merged by segs.py: CwRej.
-/
import Derived.Test.YtggfcdhkgldbfaaD30
namespace Go.Proofs.Ytggfcdhkgldbfaa
set_option linter.unusedSimpArgs false
set_option linter.unusedVariables false

/-! ### CwRej -/
section
set_option linter.unusedSimpArgs false
open Go Go.Conc Go.RowKit Go.ConcR.Gen Cw

set_option maxRecDepth 100000 in
set_option maxHeartbeats 4000000 in
theorem r_rej1a {Sh : Loc → Prop} {W : World} {mn : Bool} (hS : ShOk Sh W) {al ap : Option Addr} {n np tcap pcap : Nat} (hn : 64 < n) {b₀ : Frame} {a₀ : Act} {ops : Array Oper} {j : Nat} {rest : List Nat} {kk : List Item} (cs : List Frame) (w : World) (hF : Kn W [] w) :
    Goes Try.prog mn (Ext Vn) (HDq (Cx0 Sh)) (fun g w => g = G (b₀.at (a₀.put ((ops[j]?).bind (·.dst)) (.tuple #[.slice none 0 0, .int .i64 12])) (.inRegion ops rest :: kk)) cs ∧ Ext Vn W w) 60
      (G (fRun #[.slice ap np pcap, .slice al n tcap, undef, undef, undef, undef, undef, undef, undef, undef, undef, undef, undef, undef, undef, undef, undef, undef, undef, undef, undef, undef, undef, undef, undef, undef, undef, undef, undef, undef, undef, undef, undef, undef, undef, undef, undef, undef, undef, undef, undef, undef, undef, undef, undef, undef, undef, undef, undef, undef, undef, undef, undef, undef, undef, undef, undef, undef, undef, undef, undef, undef, undef, undef, undef, undef, undef, undef, undef, undef, undef, undef, undef, undef, undef, undef, undef, undef, undef] [.code bodyM]) (b₀.at a₀ (.inRegion ops (j :: rest) :: kk) :: cs)) w := by
  have h64 : decide ((64 : Int) < (n : Int)) = true := by simp; omega
  simp only [fRun, bodyM, inner, rt, lf, opsOf, Try.f10, Option.getD_some]
  refine Goes.step rfl (fun w hr => ?_)
  replace hF := (fun h r => Kn.rl h r) hF hr
  clear hr
  rw [stepG_seq]
  simp only [goes_go]
  refine ⟨hdq_idle _ _, ?_⟩
  refine Goes.step rfl (fun w hr => ?_)
  replace hF := (fun h r => Kn.rl h r) hF hr
  clear hr
  rw [stepG_region]
  simp only [goes_go, List.size_toArray, List.length_cons, List.length_nil, Nat.reduceAdd, Nat.zero_add, List.range, List.range.loop]
  refine ⟨hdq_idle _ _, ?_⟩
  refine Goes.step rfl (fun w hr => ?_)
  replace hF := (fun h r => Kn.rl h r) hF hr
  clear hr
  refine goes_oper_k rfl rfl (by k_ne) (fun K hK => ?_)
  go_simp
  refine hK _ _ ⟨?_, ?_⟩
  · rw [listed_nil (by simp [go_sem, *])]
    exact al_hd (by simp)
  clear hK K
  try walk_nrm
  replace hF := hF.alloc (Obj.cells #[.slice al n tcap] 32 (0, 0))
  generalize w.heap.size = tb at *
  generalize w.alloc (Obj.cells #[.slice al n tcap] 32 (0, 0)) = w at *
  refine Goes.step rfl (fun w hr => ?_)
  replace hF := (fun h r => Kn.rl h r) hF hr
  clear hr
  refine goes_oper_k rfl rfl (by k_ne) (fun K hK => ?_)
  go_simp
  refine hK _ _ ⟨?_, ?_⟩
  · rw [listed_nil (by simp [go_sem])]; exact hdq_idle _ _
  clear hK K
  try walk_nrm
  refine Goes.step rfl (fun w hr => ?_)
  replace hF := (fun h r => Kn.rl h r) hF hr
  clear hr
  refine goes_oper_k rfl rfl (by k_ne) (fun K hK => ?_)
  go_simp
  refine hK _ _ ⟨?_, ?_⟩
  · rw [listed_nil (by simp [go_sem])]; exact hdq_idle _ _
  clear hK K
  try walk_nrm
  refine Goes.step rfl (fun w hr => ?_)
  replace hF := (fun h r => Kn.rl h r) hF hr
  clear hr
  rw [stepG_region_end]
  simp only [goes_go]
  refine ⟨hdq_idle _ _, ?_⟩
  refine Goes.step rfl (fun w hr => ?_)
  replace hF := (fun h r => Kn.rl h r) hF hr
  clear hr
  rw [stepG_seq]
  simp only [goes_go]
  refine ⟨hdq_idle _ _, ?_⟩
  refine Goes.step rfl (fun w hr => ?_)
  replace hF := (fun h r => Kn.rl h r) hF hr
  clear hr
  rw [stepG_seq]
  simp only [goes_go]
  refine ⟨hdq_idle _ _, ?_⟩
  refine Goes.step rfl (fun w hr => ?_)
  replace hF := (fun h r => Kn.rl h r) hF hr
  clear hr
  rw [stepG_region]
  simp only [goes_go, List.size_toArray, List.length_cons, List.length_nil, Nat.reduceAdd, Nat.zero_add, List.range, List.range.loop]
  refine ⟨hdq_idle _ _, ?_⟩
  refine Goes.step rfl (fun w hr => ?_)
  replace hF := (fun h r => Kn.rl h r) hF hr
  clear hr
  have hbx := hF.2 (tb, Obj.cells #[.slice al n tcap] 32 (0, 0)) (by simp)
  have hc : w.cell? ⟨tb, 0, none⟩ = some (.slice al n tcap) := by simp [World.cell?, hbx.2]
  refine goes_oper_k rfl rfl (by k_ne) (fun K hK => ?_)
  go_simp
  refine hK _ _ ⟨?_, ?_⟩
  · refine rd_own hS hbx.1 (block_of_cell hc) (fun e he => ?_)
    have hm := mem_listed he
    simp [go_sem, *] at hm
    exact hm
  clear hK K hc hbx
  try walk_nrm
  refine Goes.step rfl (fun w hr => ?_)
  replace hF := (fun h r => Kn.rl h r) hF hr
  clear hr
  refine goes_oper_k rfl rfl (by k_ne) (fun K hK => ?_)
  go_simp
  refine hK _ _ ⟨?_, ?_⟩
  · rw [listed_nil (by simp [go_sem])]; exact hdq_idle _ _
  clear hK K
  try walk_nrm
  refine Goes.step rfl (fun w hr => ?_)
  replace hF := (fun h r => Kn.rl h r) hF hr
  clear hr
  refine goes_oper_k rfl rfl (by k_ne) (fun K hK => ?_)
  go_simp
  refine hK _ _ ⟨?_, ?_⟩
  · rw [listed_nil (by simp [go_sem, *])]; exact hdq_idle _ _
  clear hK K
  try walk_nrm
  try simp only [h64]
  refine Goes.step rfl (fun w hr => ?_)
  replace hF := (fun h r => Kn.rl h r) hF hr
  clear hr
  refine goes_oper_k rfl rfl (by k_ne) (fun K hK => ?_)
  go_simp
  refine hK _ _ ⟨?_, ?_⟩
  · rw [listed_nil (by simp [go_sem])]; exact hdq_idle _ _
  clear hK K
  try walk_nrm
  refine Goes.step rfl (fun w hr => ?_)
  replace hF := (fun h r => Kn.rl h r) hF hr
  clear hr
  rw [stepG_unwanted rfl (by rfl)]
  simp only [goes_go]
  refine ⟨hdq_idle _ _, ?_⟩
  refine Goes.step rfl (fun w hr => ?_)
  replace hF := (fun h r => Kn.rl h r) hF hr
  clear hr
  rw [stepG_unwanted rfl (by rfl)]
  simp only [goes_go]
  refine ⟨hdq_idle _ _, ?_⟩
  refine Goes.step rfl (fun w hr => ?_)
  replace hF := (fun h r => Kn.rl h r) hF hr
  clear hr
  rw [stepG_unwanted rfl (by rfl)]
  simp only [goes_go]
  refine ⟨hdq_idle _ _, ?_⟩
  refine Goes.step rfl (fun w hr => ?_)
  replace hF := (fun h r => Kn.rl h r) hF hr
  clear hr
  refine goes_oper_k rfl rfl (by k_ne) (fun K hK => ?_)
  go_simp
  refine hK _ _ ⟨?_, ?_⟩
  · rw [listed_nil (by simp [go_sem])]; exact hdq_idle _ _
  clear hK K
  try walk_nrm
  refine Goes.step rfl (fun w hr => ?_)
  replace hF := (fun h r => Kn.rl h r) hF hr
  clear hr
  rw [stepG_region_end]
  simp only [goes_go]
  refine ⟨hdq_idle _ _, ?_⟩
  refine Goes.step rfl (fun w hr => ?_)
  replace hF := (fun h r => Kn.rl h r) hF hr
  clear hr
  rw [stepG_cond (t := true) (by first | rfl | (simp [Act.eval]; omega))]
  simp only [goes_go, if_true, if_false, Bool.false_eq_true, ↓reduceIte]
  refine ⟨hdq_idle _ _, ?_⟩
  refine Goes.step rfl (fun w hr => ?_)
  replace hF := (fun h r => Kn.rl h r) hF hr
  clear hr
  rw [stepG_seq]
  simp only [goes_go]
  refine ⟨hdq_idle _ _, ?_⟩
  refine Goes.step rfl (fun w hr => ?_)
  replace hF := (fun h r => Kn.rl h r) hF hr
  clear hr
  rw [stepG_region]
  simp only [goes_go, List.size_toArray, List.length_cons, List.length_nil, Nat.reduceAdd, Nat.zero_add, List.range, List.range.loop]
  refine ⟨hdq_idle _ _, ?_⟩
  refine Goes.step rfl (fun w hr => ?_)
  replace hF := (fun h r => Kn.rl h r) hF hr
  clear hr
  refine goes_oper_k rfl rfl (by k_ne) (fun K hK => ?_)
  go_simp
  refine hK _ _ ⟨?_, ?_⟩
  · rw [listed_nil (by simp [go_sem])]; exact hdq_idle _ _
  clear hK K
  try walk_nrm
  refine Goes.step rfl (fun w hr => ?_)
  replace hF := (fun h r => Kn.rl h r) hF hr
  clear hr
  refine goes_oper_k rfl rfl (by k_ne) (fun K hK => ?_)
  go_simp
  refine hK _ _ ⟨?_, ?_⟩
  · rw [listed_nil (by simp [go_sem])]; exact hdq_idle _ _
  clear hK K
  try walk_nrm
  refine Goes.step rfl (fun w hr => ?_)
  replace hF := (fun h r => Kn.rl h r) hF hr
  clear hr
  rw [stepG_region_end]
  simp only [goes_go]
  refine ⟨hdq_idle _ _, ?_⟩
  refine Goes.step rfl (fun w hr => ?_)
  replace hF := (fun h r => Kn.rl h r) hF hr
  clear hr
  rw [stepG_ret']
  simp only [goes_go]
  refine ⟨hdq_idle _ _, ?_⟩
  refine Goes.step rfl (fun w hr => ?_)
  replace hF := (fun h r => Kn.rl h r) hF hr
  clear hr
  refine goes_leave2 rfl rfl Try.func10 rfl ⟨hdq_idle _ _, ?_⟩
  exact Goes.stop fun w hr => ⟨rfl, (hF.rl hr).1⟩
set_option maxRecDepth 100000 in
set_option maxHeartbeats 4000000 in
theorem r_rej1b {Sh : Loc → Prop} {W : World} {mn : Bool} (hS : ShOk Sh W) {al ap : Option Addr} {n np tcap pcap : Nat} (hn : n ≤ 64) (hnp : 4096 < np) {b₀ : Frame} {a₀ : Act} {ops : Array Oper} {j : Nat} {rest : List Nat} {kk : List Item} (cs : List Frame) (w : World) (hF : Kn W [] w) :
    Goes Try.prog mn (Ext Vn) (HDq (Cx0 Sh)) (fun g w => g = G (b₀.at (a₀.put ((ops[j]?).bind (·.dst)) (.tuple #[.slice none 0 0, .int .i64 12])) (.inRegion ops rest :: kk)) cs ∧ Ext Vn W w) 60
      (G (fRun #[.slice ap np pcap, .slice al n tcap, undef, undef, undef, undef, undef, undef, undef, undef, undef, undef, undef, undef, undef, undef, undef, undef, undef, undef, undef, undef, undef, undef, undef, undef, undef, undef, undef, undef, undef, undef, undef, undef, undef, undef, undef, undef, undef, undef, undef, undef, undef, undef, undef, undef, undef, undef, undef, undef, undef, undef, undef, undef, undef, undef, undef, undef, undef, undef, undef, undef, undef, undef, undef, undef, undef, undef, undef, undef, undef, undef, undef, undef, undef, undef, undef, undef, undef] [.code bodyM]) (b₀.at a₀ (.inRegion ops (j :: rest) :: kk) :: cs)) w := by
  have h64 : decide ((64 : Int) < (n : Int)) = false := by simp; omega
  have h4096 : decide ((4096 : Int) < (np : Int)) = true := by simp; omega
  simp only [fRun, bodyM, inner, rt, lf, opsOf, Try.f10, Option.getD_some]
  refine Goes.step rfl (fun w hr => ?_)
  replace hF := (fun h r => Kn.rl h r) hF hr
  clear hr
  rw [stepG_seq]
  simp only [goes_go]
  refine ⟨hdq_idle _ _, ?_⟩
  refine Goes.step rfl (fun w hr => ?_)
  replace hF := (fun h r => Kn.rl h r) hF hr
  clear hr
  rw [stepG_region]
  simp only [goes_go, List.size_toArray, List.length_cons, List.length_nil, Nat.reduceAdd, Nat.zero_add, List.range, List.range.loop]
  refine ⟨hdq_idle _ _, ?_⟩
  refine Goes.step rfl (fun w hr => ?_)
  replace hF := (fun h r => Kn.rl h r) hF hr
  clear hr
  refine goes_oper_k rfl rfl (by k_ne) (fun K hK => ?_)
  go_simp
  refine hK _ _ ⟨?_, ?_⟩
  · rw [listed_nil (by simp [go_sem, *])]
    exact al_hd (by simp)
  clear hK K
  try walk_nrm
  replace hF := hF.alloc (Obj.cells #[.slice al n tcap] 32 (0, 0))
  generalize w.heap.size = tb at *
  generalize w.alloc (Obj.cells #[.slice al n tcap] 32 (0, 0)) = w at *
  refine Goes.step rfl (fun w hr => ?_)
  replace hF := (fun h r => Kn.rl h r) hF hr
  clear hr
  refine goes_oper_k rfl rfl (by k_ne) (fun K hK => ?_)
  go_simp
  refine hK _ _ ⟨?_, ?_⟩
  · rw [listed_nil (by simp [go_sem])]; exact hdq_idle _ _
  clear hK K
  try walk_nrm
  refine Goes.step rfl (fun w hr => ?_)
  replace hF := (fun h r => Kn.rl h r) hF hr
  clear hr
  refine goes_oper_k rfl rfl (by k_ne) (fun K hK => ?_)
  go_simp
  refine hK _ _ ⟨?_, ?_⟩
  · rw [listed_nil (by simp [go_sem])]; exact hdq_idle _ _
  clear hK K
  try walk_nrm
  refine Goes.step rfl (fun w hr => ?_)
  replace hF := (fun h r => Kn.rl h r) hF hr
  clear hr
  rw [stepG_region_end]
  simp only [goes_go]
  refine ⟨hdq_idle _ _, ?_⟩
  refine Goes.step rfl (fun w hr => ?_)
  replace hF := (fun h r => Kn.rl h r) hF hr
  clear hr
  rw [stepG_seq]
  simp only [goes_go]
  refine ⟨hdq_idle _ _, ?_⟩
  refine Goes.step rfl (fun w hr => ?_)
  replace hF := (fun h r => Kn.rl h r) hF hr
  clear hr
  rw [stepG_seq]
  simp only [goes_go]
  refine ⟨hdq_idle _ _, ?_⟩
  refine Goes.step rfl (fun w hr => ?_)
  replace hF := (fun h r => Kn.rl h r) hF hr
  clear hr
  rw [stepG_region]
  simp only [goes_go, List.size_toArray, List.length_cons, List.length_nil, Nat.reduceAdd, Nat.zero_add, List.range, List.range.loop]
  refine ⟨hdq_idle _ _, ?_⟩
  refine Goes.step rfl (fun w hr => ?_)
  replace hF := (fun h r => Kn.rl h r) hF hr
  clear hr
  have hbx := hF.2 (tb, Obj.cells #[.slice al n tcap] 32 (0, 0)) (by simp)
  have hc : w.cell? ⟨tb, 0, none⟩ = some (.slice al n tcap) := by simp [World.cell?, hbx.2]
  refine goes_oper_k rfl rfl (by k_ne) (fun K hK => ?_)
  go_simp
  refine hK _ _ ⟨?_, ?_⟩
  · refine rd_own hS hbx.1 (block_of_cell hc) (fun e he => ?_)
    have hm := mem_listed he
    simp [go_sem, *] at hm
    exact hm
  clear hK K hc hbx
  try walk_nrm
  refine Goes.step rfl (fun w hr => ?_)
  replace hF := (fun h r => Kn.rl h r) hF hr
  clear hr
  refine goes_oper_k rfl rfl (by k_ne) (fun K hK => ?_)
  go_simp
  refine hK _ _ ⟨?_, ?_⟩
  · rw [listed_nil (by simp [go_sem])]; exact hdq_idle _ _
  clear hK K
  try walk_nrm
  refine Goes.step rfl (fun w hr => ?_)
  replace hF := (fun h r => Kn.rl h r) hF hr
  clear hr
  refine goes_oper_k rfl rfl (by k_ne) (fun K hK => ?_)
  go_simp
  refine hK _ _ ⟨?_, ?_⟩
  · rw [listed_nil (by simp [go_sem, *])]; exact hdq_idle _ _
  clear hK K
  try walk_nrm
  try simp only [h64]
  refine Goes.step rfl (fun w hr => ?_)
  replace hF := (fun h r => Kn.rl h r) hF hr
  clear hr
  refine goes_oper_k rfl rfl (by k_ne) (fun K hK => ?_)
  go_simp
  refine hK _ _ ⟨?_, ?_⟩
  · rw [listed_nil (by simp [go_sem])]; exact hdq_idle _ _
  clear hK K
  try walk_nrm
  refine Goes.step rfl (fun w hr => ?_)
  replace hF := (fun h r => Kn.rl h r) hF hr
  clear hr
  refine goes_oper_k rfl rfl (by k_ne) (fun K hK => ?_)
  go_simp
  refine hK _ _ ⟨?_, ?_⟩
  · rw [listed_nil (by simp [go_sem])]; exact hdq_idle _ _
  clear hK K
  try walk_nrm
  refine Goes.step rfl (fun w hr => ?_)
  replace hF := (fun h r => Kn.rl h r) hF hr
  clear hr
  refine goes_oper_k rfl rfl (by k_ne) (fun K hK => ?_)
  go_simp
  refine hK _ _ ⟨?_, ?_⟩
  · rw [listed_nil (by simp [go_sem])]; exact hdq_idle _ _
  clear hK K
  try walk_nrm
  refine Goes.step rfl (fun w hr => ?_)
  replace hF := (fun h r => Kn.rl h r) hF hr
  clear hr
  refine goes_oper_k rfl rfl (by k_ne) (fun K hK => ?_)
  go_simp
  refine hK _ _ ⟨?_, ?_⟩
  · rw [listed_nil (by simp [go_sem, *])]; exact hdq_idle _ _
  clear hK K
  try walk_nrm
  try simp only [h4096]
  refine Goes.step rfl (fun w hr => ?_)
  replace hF := (fun h r => Kn.rl h r) hF hr
  clear hr
  refine goes_oper_k rfl rfl (by k_ne) (fun K hK => ?_)
  go_simp
  refine hK _ _ ⟨?_, ?_⟩
  · rw [listed_nil (by simp [go_sem])]; exact hdq_idle _ _
  clear hK K
  try walk_nrm
  refine Goes.step rfl (fun w hr => ?_)
  replace hF := (fun h r => Kn.rl h r) hF hr
  clear hr
  rw [stepG_region_end]
  simp only [goes_go]
  refine ⟨hdq_idle _ _, ?_⟩
  refine Goes.step rfl (fun w hr => ?_)
  replace hF := (fun h r => Kn.rl h r) hF hr
  clear hr
  rw [stepG_cond (t := true) (by first | rfl | (simp [Act.eval]; omega))]
  simp only [goes_go, if_true, if_false, Bool.false_eq_true, ↓reduceIte]
  refine ⟨hdq_idle _ _, ?_⟩
  refine Goes.step rfl (fun w hr => ?_)
  replace hF := (fun h r => Kn.rl h r) hF hr
  clear hr
  rw [stepG_seq]
  simp only [goes_go]
  refine ⟨hdq_idle _ _, ?_⟩
  refine Goes.step rfl (fun w hr => ?_)
  replace hF := (fun h r => Kn.rl h r) hF hr
  clear hr
  rw [stepG_region]
  simp only [goes_go, List.size_toArray, List.length_cons, List.length_nil, Nat.reduceAdd, Nat.zero_add, List.range, List.range.loop]
  refine ⟨hdq_idle _ _, ?_⟩
  refine Goes.step rfl (fun w hr => ?_)
  replace hF := (fun h r => Kn.rl h r) hF hr
  clear hr
  refine goes_oper_k rfl rfl (by k_ne) (fun K hK => ?_)
  go_simp
  refine hK _ _ ⟨?_, ?_⟩
  · rw [listed_nil (by simp [go_sem])]; exact hdq_idle _ _
  clear hK K
  try walk_nrm
  refine Goes.step rfl (fun w hr => ?_)
  replace hF := (fun h r => Kn.rl h r) hF hr
  clear hr
  refine goes_oper_k rfl rfl (by k_ne) (fun K hK => ?_)
  go_simp
  refine hK _ _ ⟨?_, ?_⟩
  · rw [listed_nil (by simp [go_sem])]; exact hdq_idle _ _
  clear hK K
  try walk_nrm
  refine Goes.step rfl (fun w hr => ?_)
  replace hF := (fun h r => Kn.rl h r) hF hr
  clear hr
  rw [stepG_region_end]
  simp only [goes_go]
  refine ⟨hdq_idle _ _, ?_⟩
  refine Goes.step rfl (fun w hr => ?_)
  replace hF := (fun h r => Kn.rl h r) hF hr
  clear hr
  rw [stepG_ret']
  simp only [goes_go]
  refine ⟨hdq_idle _ _, ?_⟩
  refine Goes.step rfl (fun w hr => ?_)
  replace hF := (fun h r => Kn.rl h r) hF hr
  clear hr
  refine goes_leave2 rfl rfl Try.func10 rfl ⟨hdq_idle _ _, ?_⟩
  exact Goes.stop fun w hr => ⟨rfl, (hF.rl hr).1⟩
set_option maxRecDepth 100000 in
set_option maxHeartbeats 4000000 in
theorem r_rej2 {Sh : Loc → Prop} {W : World} {mn : Bool} (hS : ShOk Sh W) {al ap : Option Addr} {n np tcap pcap tb kc : Nat} {b₀ : Frame} {a₀ : Act} {ops : Array Oper} {j : Nat} {rest : List Nat} {kk : List Item} (cs : List Frame) (w : World) (hF : Kn W [(tb, Obj.cells #[.slice al n tcap] 32 (0, 0))] w) (T : Array Value) (hT : T.size = 79) (h0 : T[0]? = some (.slice ap np pcap)) (h3 : T[3]? = some (pb tb)) (h24 : T[24]? = some (.slice al n tcap))
    (hkc : ∀ w', Ext Vn w w' → CallsC Try.prog mn (Ext Vn) (HDq (Cx0 Sh)) 14 #[.slice al n tcap, .func (.func 15) #[] #[]] kc w' (fun r w'' => r = .bool true ∧ Ext Vn w w'')) :
    Goes Try.prog mn (Ext Vn) (HDq (Cx0 Sh)) (fun g w => g = G (b₀.at (a₀.put ((ops[j]?).bind (·.dst)) (.tuple #[.slice none 0 0, .int .i64 1])) (.inRegion ops rest :: kk)) cs ∧ Ext Vn W w) (20 + kc + 3)
      (G (fRun T (.inRegion (opsOf (lf (lf (rt (rt bodyM))))) [1] :: .code (rt (lf (rt (rt bodyM)))) :: .code (rt (rt (rt bodyM))) :: [])) (b₀.at a₀ (.inRegion ops (j :: rest) :: kk) :: cs)) w := by
  obtain ⟨v0, v1, v2, v3, v4, v5, v6, v7, v8, v9, v10, v11, v12, v13, v14, v15, v16, v17, v18, v19, v20, v21, v22, v23, v24, v25, v26, v27, v28, v29, v30, v31, v32, v33, v34, v35, v36, v37, v38, v39, v40, v41, v42, v43, v44, v45, v46, v47, v48, v49, v50, v51, v52, v53, v54, v55, v56, v57, v58, v59, v60, v61, v62, v63, v64, v65, v66, v67, v68, v69, v70, v71, v72, v73, v74, v75, v76, v77, v78, rfl⟩ := array79 T hT
  simp only [List.getElem?_toArray, List.getElem?_cons_zero, List.getElem?_cons_succ, Option.some.injEq] at h0 h3 h24
  subst h0
  subst h3
  subst h24
  simp only [fRun, opsF, bodyM, inner, rt, lf, opsOf, Try.f10, Option.getD_some]
  refine Goes.mono (n := 20 + kc + 3) ?_ (by omega)
  refine Goes.call (hdq_terms (Cx0 Sh) Vn) (f := 14) (args := #[.tmp 24, .func 15]) (ats := #[32, 53]) rfl rfl (by k_ne) rfl (by simp only [List.map_toArray, List.map_cons, List.map_nil, Act.eval]; exact hkc _ (Ext.refl Vn w)) (fun v w' hv => ?_)
  obtain ⟨rfl, hE⟩ := hv
  replace hF := hF.rl hE
  clear hE hkc
  generalize w' = w at *
  try walk_nrm
  refine Goes.step rfl (fun w hr => ?_)
  replace hF := (fun h r => Kn.rl h r) hF hr
  clear hr
  rw [stepG_region_end]
  simp only [goes_go]
  refine ⟨hdq_idle _ _, ?_⟩
  refine Goes.step rfl (fun w hr => ?_)
  replace hF := (fun h r => Kn.rl h r) hF hr
  clear hr
  rw [stepG_cond (t := true) (by first | rfl | (simp [Act.eval]; omega))]
  simp only [goes_go, if_true, if_false, Bool.false_eq_true, ↓reduceIte]
  refine ⟨hdq_idle _ _, ?_⟩
  refine Goes.step rfl (fun w hr => ?_)
  replace hF := (fun h r => Kn.rl h r) hF hr
  clear hr
  rw [stepG_seq]
  simp only [goes_go]
  refine ⟨hdq_idle _ _, ?_⟩
  refine Goes.step rfl (fun w hr => ?_)
  replace hF := (fun h r => Kn.rl h r) hF hr
  clear hr
  rw [stepG_region]
  simp only [goes_go, List.size_toArray, List.length_cons, List.length_nil, Nat.reduceAdd, Nat.zero_add, List.range, List.range.loop]
  refine ⟨hdq_idle _ _, ?_⟩
  refine Goes.step rfl (fun w hr => ?_)
  replace hF := (fun h r => Kn.rl h r) hF hr
  clear hr
  refine goes_oper_k rfl rfl (by k_ne) (fun K hK => ?_)
  go_simp
  refine hK _ _ ⟨?_, ?_⟩
  · rw [listed_nil (by simp [go_sem])]; exact hdq_idle _ _
  clear hK K
  try walk_nrm
  refine Goes.step rfl (fun w hr => ?_)
  replace hF := (fun h r => Kn.rl h r) hF hr
  clear hr
  refine goes_oper_k rfl rfl (by k_ne) (fun K hK => ?_)
  go_simp
  refine hK _ _ ⟨?_, ?_⟩
  · rw [listed_nil (by simp [go_sem])]; exact hdq_idle _ _
  clear hK K
  try walk_nrm
  refine Goes.step rfl (fun w hr => ?_)
  replace hF := (fun h r => Kn.rl h r) hF hr
  clear hr
  rw [stepG_region_end]
  simp only [goes_go]
  refine ⟨hdq_idle _ _, ?_⟩
  refine Goes.step rfl (fun w hr => ?_)
  replace hF := (fun h r => Kn.rl h r) hF hr
  clear hr
  rw [stepG_ret']
  simp only [goes_go]
  refine ⟨hdq_idle _ _, ?_⟩
  refine Goes.step rfl (fun w hr => ?_)
  replace hF := (fun h r => Kn.rl h r) hF hr
  clear hr
  refine goes_leave2 rfl rfl Try.func10 rfl ⟨hdq_idle _ _, ?_⟩
  exact Goes.stop fun w hr => ⟨rfl, (hF.rl hr).1⟩
set_option maxRecDepth 100000 in
set_option maxHeartbeats 4000000 in
theorem r_rej3 {Sh : Loc → Prop} {W : World} {mn : Bool} (hS : ShOk Sh W) {al ap : Option Addr} {n np tcap pcap tb kc : Nat} {b₀ : Frame} {a₀ : Act} {ops : Array Oper} {j : Nat} {rest : List Nat} {kk : List Item} (cs : List Frame) (w : World) (hF : Kn W [(tb, Obj.cells #[.slice al n tcap] 32 (0, 0))] w) (T : Array Value) (hT : T.size = 79) (h0 : T[0]? = some (.slice ap np pcap)) (h3 : T[3]? = some (pb tb)) (h26 : T[26]? = some (.slice ap np pcap)) (h27 : T[27]? = some (.func (.func 17) #[] #[pb tb]))
    (hkc : ∀ w', Ext Vn w w' → CallsC Try.prog mn (Ext Vn) (HDq (Cx0 Sh)) 16 #[.slice ap np pcap, .func (.func 17) #[] #[pb tb]] kc w' (fun r w'' => r = .bool true ∧ Ext Vn w w'')) :
    Goes Try.prog mn (Ext Vn) (HDq (Cx0 Sh)) (fun g w => g = G (b₀.at (a₀.put ((ops[j]?).bind (·.dst)) (.tuple #[.slice none 0 0, .int .i64 3])) (.inRegion ops rest :: kk)) cs ∧ Ext Vn W w) (30 + kc + 3)
      (G (fRun T (.inRegion opsF [2] :: .code (rt (lf (rt (rt (rt bodyM))))) :: .code (rt (rt (rt (rt bodyM)))) :: [])) (b₀.at a₀ (.inRegion ops (j :: rest) :: kk) :: cs)) w := by
  obtain ⟨v0, v1, v2, v3, v4, v5, v6, v7, v8, v9, v10, v11, v12, v13, v14, v15, v16, v17, v18, v19, v20, v21, v22, v23, v24, v25, v26, v27, v28, v29, v30, v31, v32, v33, v34, v35, v36, v37, v38, v39, v40, v41, v42, v43, v44, v45, v46, v47, v48, v49, v50, v51, v52, v53, v54, v55, v56, v57, v58, v59, v60, v61, v62, v63, v64, v65, v66, v67, v68, v69, v70, v71, v72, v73, v74, v75, v76, v77, v78, rfl⟩ := array79 T hT
  simp only [List.getElem?_toArray, List.getElem?_cons_zero, List.getElem?_cons_succ, Option.some.injEq] at h0 h3 h26 h27
  subst h0
  subst h3
  subst h26
  subst h27
  simp only [fRun, opsF, cd7, bodyM, inner, rt, lf, opsOf, Try.f10, Option.getD_some]
  refine Goes.mono (n := 30 + kc + 3) ?_ (by omega)
  refine Goes.call (hdq_terms (Cx0 Sh) Vn) (f := 16) (args := #[.tmp 26, .tmp 27]) (ats := #[24, 55]) rfl rfl (by k_ne) rfl (by simp only [List.map_toArray, List.map_cons, List.map_nil, Act.eval]; exact hkc _ (Ext.refl Vn w)) (fun v w' hv => ?_)
  obtain ⟨rfl, hE⟩ := hv
  replace hF := hF.rl hE
  clear hE hkc
  generalize w' = w at *
  try walk_nrm
  refine Goes.step rfl (fun w hr => ?_)
  replace hF := (fun h r => Kn.rl h r) hF hr
  clear hr
  rw [stepG_region_end]
  simp only [goes_go]
  refine ⟨hdq_idle _ _, ?_⟩
  refine Goes.step rfl (fun w hr => ?_)
  replace hF := (fun h r => Kn.rl h r) hF hr
  clear hr
  rw [stepG_cond (t := true) (by first | rfl | (simp [Act.eval]; omega))]
  simp only [goes_go, if_true, if_false, Bool.false_eq_true, ↓reduceIte]
  refine ⟨hdq_idle _ _, ?_⟩
  refine Goes.step rfl (fun w hr => ?_)
  replace hF := (fun h r => Kn.rl h r) hF hr
  clear hr
  rw [stepG_seq]
  simp only [goes_go]
  refine ⟨hdq_idle _ _, ?_⟩
  refine Goes.step rfl (fun w hr => ?_)
  replace hF := (fun h r => Kn.rl h r) hF hr
  clear hr
  rw [stepG_region]
  simp only [goes_go, List.size_toArray, List.length_cons, List.length_nil, Nat.reduceAdd, Nat.zero_add, List.range, List.range.loop]
  refine ⟨hdq_idle _ _, ?_⟩
  refine Goes.step rfl (fun w hr => ?_)
  replace hF := (fun h r => Kn.rl h r) hF hr
  clear hr
  refine goes_oper_k rfl rfl (by k_ne) (fun K hK => ?_)
  go_simp
  refine hK _ _ ⟨?_, ?_⟩
  · rw [listed_nil (by simp [go_sem])]; exact hdq_idle _ _
  clear hK K
  try walk_nrm
  refine Goes.step rfl (fun w hr => ?_)
  replace hF := (fun h r => Kn.rl h r) hF hr
  clear hr
  refine goes_oper_k rfl rfl (by k_ne) (fun K hK => ?_)
  go_simp
  refine hK _ _ ⟨?_, ?_⟩
  · rw [listed_nil (by simp [go_sem])]; exact hdq_idle _ _
  clear hK K
  try walk_nrm
  refine Goes.step rfl (fun w hr => ?_)
  replace hF := (fun h r => Kn.rl h r) hF hr
  clear hr
  rw [stepG_region_end]
  simp only [goes_go]
  refine ⟨hdq_idle _ _, ?_⟩
  refine Goes.step rfl (fun w hr => ?_)
  replace hF := (fun h r => Kn.rl h r) hF hr
  clear hr
  rw [stepG_ret']
  simp only [goes_go]
  refine ⟨hdq_idle _ _, ?_⟩
  refine Goes.step rfl (fun w hr => ?_)
  replace hF := (fun h r => Kn.rl h r) hF hr
  clear hr
  refine goes_leave2 rfl rfl Try.func10 rfl ⟨hdq_idle _ _, ?_⟩
  exact Goes.stop fun w hr => ⟨rfl, (hF.rl hr).1⟩
end
end Go.Proofs.Ytggfcdhkgldbfaa
