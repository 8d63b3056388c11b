/-
  PARTS of a claim, merged by segs.py: CwV, CwR3, CwK.
-/
import Derived.Test.YtggfcdhkgldbfaaDoorS08
import Derived.Test.YtggfcdhkgldbfaaDoorS15
import Derived.Test.YtggfcdhkgldbfaaDoorS14
import Derived.Conc.WgGenN3
namespace Go.Proofs.YtggfcdhkgldbfaaDoor
set_option linter.unusedSimpArgs false
set_option linter.unusedVariables false

/-! ### CwV -/
section
namespace Cw
open Go Go.Conc Go.ConcN Go.RowKit Go.Conc.Lib Go.ConcR.Gen
open Go.ConcR (KK wgBlock WgAt stA smA rd wr mk Payload DC0)
open Go.ConcN.Gen (AnchWN)

theorem rlive_rl {ty : TypeId} {Wg : Nat} {w w₁ : World} (h : WgLive ty Wg w) (r : RLive ty Wg w w₁) : WgLive ty Wg w₁ := r h

section
variable {P : Program} {L : WgLink} {Wg : Nat} (b₀ : Frame) (a₀ : Act) (ops₀ : Array Oper) (i₀ : Nat) (rest₀ : List Nat) (k₀ : List Item) (cs : List Frame)
/-- The caller goes on behind the Wait. -/
def Back (g : Goroutine) (_ : World) : Prop := g = G (b₀.at (a₀.put ((ops₀[i₀]?).bind (·.dst)) (.tuple #[])) (.inRegion ops₀ rest₀ :: k₀)) cs
/-- At the acquire. -/
def AtQ (P : Program) (ty : TypeId) (Wg : Nat) (g : Goroutine) (_ : World) : Prop :=
  g.status = .running ∧ ∀ w, WgLive ty Wg w → ∃ g', stepG P true g w = .go g' w #[mk (.acquire (stA Wg))] ∧ ∃ m, Goes P true (RLive ty Wg) D0 (Back b₀ a₀ ops₀ i₀ rest₀ k₀ cs) m g' w
/-- At 'enable'. -/
def AtE (P : Program) (ty : TypeId) (Wg : Nat) (g : Goroutine) (_ : World) : Prop :=
  g.status = .running ∧ ∀ w, WgLive ty Wg w → ∃ g', stepG P true g w = .go g' w #[mk .enable] ∧ ∃ m, Goes P true (RLive ty Wg) D0 (AtQ b₀ a₀ ops₀ i₀ rest₀ k₀ cs P ty Wg) m g' w
end

theorem evA_cell {Wg : Nat} (a : Addr) (x : Bool) (h : a.block = Wg) : EvA Wg #[⟨.cell a, x, true⟩] := .inl fun e he => by
  simp only [List.mem_toArray, List.mem_cons, List.not_mem_nil, or_false] at he
  exact .inl ⟨a, x, he, h⟩
theorem evA_cell2 {Wg : Nat} (a a' : Addr) (x x' : Bool) (h : a.block = Wg) (h' : a'.block = Wg) : EvA Wg #[⟨.cell a, x, true⟩, ⟨.cell a', x', true⟩] := .inl fun e he => by
  simp only [List.mem_toArray, List.mem_cons, List.not_mem_nil, or_false] at he
  rcases he with rfl | rfl
  · exact .inl ⟨a, x, rfl, h⟩
  · exact .inl ⟨a', x', rfl, h'⟩
theorem evA_write {Wg : Nat} (a : Addr) (h : a.block = Wg) : EvA Wg #[⟨.mark (.write a), false, true⟩] := .inl fun e he => by
  simp only [List.mem_toArray, List.mem_cons, List.not_mem_nil, or_false] at he
  exact .inr ⟨a, .inr he, h⟩

section
variable {P : Program} {L : WgLink} {Wg : Nat} {b₀ : Frame} {a₀ : Act} {ops₀ : Array Oper} {i₀ : Nat} {rest₀ : List Nat} {k₀ : List Item} {cs : List Frame}

set_option maxRecDepth 100000 in
set_option maxHeartbeats 8000000 in
/-- From the loop's head. -/
theorem wait_round (H : WgLib P L) (g : Goroutine) (w : World) (h : AnchWN L (fun _ => True) Wg (b₀.at a₀ (.inRegion ops₀ (i₀ :: rest₀) :: k₀)) cs g w) :
    ∃ m, Goes P true (RLive L.tWg Wg) D0 (W1 P true L.tWg Wg (AnchWN L (fun _ => True) Wg (b₀.at a₀ (.inRegion ops₀ (i₀ :: rest₀) :: k₀)) cs) (AtE b₀ a₀ ops₀ i₀ rest₀ k₀ cs P L.tWg Wg)) m g w := by
  lib_facts
  obtain ⟨T, rfl, hT84, t0, _, hF⟩ := h
  obtain ⟨v0, v1, v2, v3, v4, v5, v6, v7, v8, v9, v10, v11, v12, v13, v14, v15, v16, v17, v18, v19, v20, v21, v22, v23, v24, v25, v26, v27, v28, v29, v30, v31, v32, v33, v34, v35, v36, v37, v38, v39, v40, v41, v42, v43, v44, v45, v46, v47, v48, v49, v50, v51, v52, v53, v54, v55, v56, v57, v58, v59, v60, v61, v62, v63, v64, v65, v66, v67, v68, v69, v70, v71, v72, v73, v74, v75, v76, v77, v78, v79, v80, v81, v82, v83, rfl⟩ := array84 T hT84
  simp only [List.getElem?_toArray, List.getElem?_cons_zero, Option.some.injEq] at t0
  subst t0
  refine ⟨100, ?_⟩
  simp only [L7, body_wait, waitFn, Option.getD_some]
  u_c stepG_block rlive_rl hF
  u_c stepG_seq rlive_rl hF
  u_reg rlive_rl hF
  u_op rlive_rl hF
  u_op rlive_rl hF
  u_op rlive_rl hF
  u_call H.f_uLoad (nm_uLoad L) uLoadFn rlive_rl hF
  u_c stepG_seq rlive_rl hF
  u_reg rlive_rl hF
  u_op rlive_rl hF
  u_c stepG_region_end rlive_rl hF
  u_c stepG_seq rlive_rl hF
  u_reg rlive_rl hF
  u_op rlive_rl hF
  u_op rlive_rl hF
  u_op rlive_rl hF
  refine Goes.stop (fun w₁ h₁ => ?_)
  replace hF := rlive_rl hF h₁
  clear h₁
  refine ⟨rfl, fun v hv hw => ?_⟩
  rcases Nat.eq_zero_or_pos v with rfl | hvp
  · replace hw : WgAt L.tWg Wg w₁ 0 0 := by simpa using hw
    refine ⟨_, _, stepG_load_atomic (v := 0) rfl rfl (by k_ne) rfl H.f_loadU64 (x_loadU64_n L) (x_loadU64_b L) (x_loadU64_x L) .u64 (x_loadU64_f L) rfl hw.cellSt, evA_cell _ _ rfl, fun _ => ⟨100, ?_⟩, fun h => absurd rfl h⟩
    clear hw
    walk_nrm
    u_op rlive_rl hF
    u_c stepG_region_end rlive_rl hF
    u_c stepG_ret' rlive_rl hF
    u_leave1 H.f_uLoad rlive_rl hF
    u_op rlive_rl hF
    u_c stepG_region_end rlive_rl hF
    u_c stepG_seq rlive_rl hF
    u_reg rlive_rl hF
    u_op rlive_rl hF
    u_op rlive_rl hF
    u_op rlive_rl hF
    u_op rlive_rl hF
    u_c stepG_region_end rlive_rl hF
    u_c stepG_seq rlive_rl hF
    u_reg rlive_rl hF
    u_op rlive_rl hF
    u_op rlive_rl hF
    u_op rlive_rl hF
    u_op rlive_rl hF
    u_c stepG_region_end rlive_rl hF
    u_c stepG_seq rlive_rl hF
    u_c stepG_seq rlive_rl hF
    u_reg rlive_rl hF
    u_op rlive_rl hF
    u_op rlive_rl hF
    u_c stepG_region_end rlive_rl hF
    u_cond true rlive_rl hF
    u_c stepG_seq rlive_rl hF
    u_cond true rlive_rl hF
    u_c stepG_seq rlive_rl hF
    u_reg rlive_rl hF
    refine Goes.stop (fun w₅ h₅ => ?_)
    replace hF := rlive_rl hF h₅
    clear h₅
    refine ⟨rfl, fun w hF => ⟨_, stepG_mark0 .enable (by simp) rfl rfl (by k_ne) rfl H.f_enable (x_enable_n L) (x_enable_b L) (x_enable_x L) (x_enable_f L), 12, ?_⟩⟩
    walk_nrm
    u_c stepG_region_end rlive_rl hF
    u_reg rlive_rl hF
    u_op rlive_rl hF
    u_conv H.underlying_tWgP H.room_tWg (Go.ConcN.Gen.WgLive.cell0 hF).choose_spec rlive_rl hF
    refine Goes.stop (fun w₆ h₆ => ?_)
    replace hF := rlive_rl hF h₆
    clear h₆
    refine ⟨rfl, fun w hF => ⟨_, stepG_markAt .acquire (by simp) rfl rfl (by k_ne) rfl H.f_acquire (x_acquire_n L) (x_acquire_b L) (x_acquire_x L) (x_acquire_f L) (by simp [Act.eval, stA, smA] <;> rfl), 40, ?_⟩⟩
    walk_nrm
    u_c stepG_region_end rlive_rl hF
    u_c stepG_seq rlive_rl hF
    u_c stepG_seq rlive_rl hF
    u_reg rlive_rl hF
    u_op rlive_rl hF
    u_op rlive_rl hF
    u_op rlive_rl hF
    u_op rlive_rl hF
    u_op rlive_rl hF
    u_op rlive_rl hF
    u_op rlive_rl hF
    u_op rlive_rl hF
    u_skip rlive_rl hF
    u_skip rlive_rl hF
    u_op rlive_rl hF
    u_c stepG_region_end rlive_rl hF
    u_cond false rlive_rl hF
    u_c stepG_skip rlive_rl hF
    u_c stepG_ret' rlive_rl hF
    u_leave0 H.f_wait rlive_rl hF
    exact Goes.stop fun _ _ => rfl
  · obtain ⟨S, hS⟩ : ∃ S : Int, (v : Int) * KK = S := ⟨_, rfl⟩
    have a1 : S / 4294967296 = (v : Int) := by rw [← hS]; simp only [KK]; omega
    have b1 : bits .and .u64 S 2147483648 = 0 := by rw [← hS]; have := st_flag v 0 (by omega) (by omega); simpa [KK] using this
    have b2 : bits .and .u64 S 2147483647 = 0 := by rw [← hS]; have := st_waiters v 0 (by omega) (by omega); simpa [KK] using this
    have c1 : IntKind.i32.wrap (v : Int) = (v : Int) := by rw [IntKind.wrap_i32]; omega
    have w1 : IntKind.u64.wrap (S + 1) = S + 1 := by rw [IntKind.wrap_u64, ← hS]; simp only [KK]; omega
    have q3 : decide ((v : Int) < 0) = false := decide_eq_false (by omega)
    have q4 : decide (0 < (v : Int)) = true := decide_eq_true (by omega)
    have q5 : ((v : Int) == 0) = false := by simp; omega
    have q6 : decide ((v : Int) = 0) = false := decide_eq_false (by omega)
    rw [hS] at hw
    refine ⟨_, _, stepG_load_atomic (v := S) rfl rfl (by k_ne) rfl H.f_loadU64 (x_loadU64_n L) (x_loadU64_b L) (x_loadU64_x L) .u64 (x_loadU64_f L) rfl hw.cellSt, evA_cell _ _ rfl, fun h0 => absurd h0 (by omega), fun _ => ⟨100, ?_⟩⟩
    clear hw
    walk_nrm
    u_op rlive_rl hF
    u_c stepG_region_end rlive_rl hF
    u_c stepG_ret' rlive_rl hF
    u_leave1 H.f_uLoad rlive_rl hF
    u_op rlive_rl hF
    u_c stepG_region_end rlive_rl hF
    u_c stepG_seq rlive_rl hF
    u_reg rlive_rl hF
    u_op rlive_rl hF
    u_op rlive_rl hF
    u_op rlive_rl hF
    u_op rlive_rl hF
    u_c stepG_region_end rlive_rl hF
    u_c stepG_seq rlive_rl hF
    u_reg rlive_rl hF
    u_op rlive_rl hF
    u_op rlive_rl hF
    u_op rlive_rl hF
    u_op rlive_rl hF
    u_c stepG_region_end rlive_rl hF
    u_c stepG_seq rlive_rl hF
    u_c stepG_seq rlive_rl hF
    u_reg rlive_rl hF
    u_op rlive_rl hF
    u_op rlive_rl hF
    u_c stepG_region_end rlive_rl hF
    u_cond false rlive_rl hF
    u_c stepG_skip rlive_rl hF
    u_c stepG_seq rlive_rl hF
    u_reg rlive_rl hF
    u_op rlive_rl hF
    u_op rlive_rl hF
    u_op rlive_rl hF
    u_op rlive_rl hF
    u_op rlive_rl hF
    u_op rlive_rl hF
    u_call H.f_uCas (nm_uCas L) uCasFn rlive_rl hF
    u_c stepG_seq rlive_rl hF
    u_reg rlive_rl hF
    u_op rlive_rl hF
    u_c stepG_region_end rlive_rl hF
    u_c stepG_seq rlive_rl hF
    u_reg rlive_rl hF
    u_op rlive_rl hF
    u_op rlive_rl hF
    u_op rlive_rl hF
    u_op rlive_rl hF
    u_op rlive_rl hF
    refine Goes.stop (fun w₂ h₂ => ?_)
    replace hF := rlive_rl hF h₂
    clear h₂
    refine ⟨rfl, fun v' hv' hw => ⟨fun e => ?_, fun e => ?_⟩⟩
    · subst e
      rw [hS] at hw ⊢
      refine ⟨_, _, (stepG_cas_hit (v := S) (n := S + 1) rfl rfl (by k_ne) rfl H.f_casU64 (x_casU64_n L) (x_casU64_b L) (x_casU64_x L) .u64 (x_casU64_f L) rfl rfl rfl hw.cellSt (hw.thaw 0)).trans (by rfl), evA_cell2 _ _ _ _ rfl rfl, 70, ?_⟩
      replace hF : WgLive L.tWg Wg (w₂.setCell (stA Wg) (.int .u64 (S + 1))) := ⟨_, _, hw.setSt _⟩
      clear hw
      walk_nrm
      u_op rlive_rl hF
      u_c stepG_region_end rlive_rl hF
      u_c stepG_ret' rlive_rl hF
      u_leave1 H.f_uCas rlive_rl hF
      u_c stepG_region_end rlive_rl hF
      u_cond true rlive_rl hF
      u_c stepG_seq rlive_rl hF
      u_c stepG_seq rlive_rl hF
      u_reg rlive_rl hF
      u_op rlive_rl hF
      u_op rlive_rl hF
      u_op rlive_rl hF
      u_op rlive_rl hF
      u_c stepG_region_end rlive_rl hF
      u_cond true rlive_rl hF
      u_reg rlive_rl hF
      u_op rlive_rl hF
      u_op rlive_rl hF
      u_op rlive_rl hF
      u_conv H.underlying_tPU32 H.room_tU32 (Go.ConcN.Gen.WgLive.cell1 hF).choose_spec rlive_rl hF
      refine Goes.stop (fun w₇ h₇ => ?_)
      replace hF := rlive_rl hF h₇
      clear h₇
      refine ⟨rfl, _, _, stepG_markAt .write (by simp) rfl rfl (by k_ne) rfl H.f_raceWrite (x_raceWrite_n L) (x_raceWrite_b L) (x_raceWrite_x L) (x_raceWrite_f L) (by simp [Act.eval, stA, smA] <;> rfl), evA_write ⟨Wg, 1, none⟩ rfl, 60, ?_⟩
      walk_nrm
      u_c stepG_region_end rlive_rl hF
      u_c stepG_seq rlive_rl hF
      u_reg rlive_rl hF
      u_op rlive_rl hF
      u_c stepG_region_end rlive_rl hF
      u_c stepG_seq rlive_rl hF
      u_c stepG_seq rlive_rl hF
      u_reg rlive_rl hF
      u_op rlive_rl hF
      u_op rlive_rl hF
      u_op rlive_rl hF
      u_op rlive_rl hF
      u_skip rlive_rl hF
      u_op rlive_rl hF
      u_c stepG_region_end rlive_rl hF
      u_cond false rlive_rl hF
      u_c stepG_skip rlive_rl hF
      u_c stepG_seq rlive_rl hF
      u_reg rlive_rl hF
      u_op rlive_rl hF
      u_op rlive_rl hF
      u_op rlive_rl hF
      u_op rlive_rl hF
      refine Goes.stop (fun w₃ h₃ => ?_)
      replace hF := rlive_rl hF h₃
      clear h₃
      refine ⟨rfl, rfl, fun ⟨st, hw⟩ => stepG_semacquire_wait rfl rfl rfl H.f_semacquire (x_semacquire_n L) (x_semacquire_b L) (x_semacquire_x L) (x_semacquire_f L) (by simp [Act.eval, smA]) hw.cellSm, fun hf => ?_⟩
      refine ⟨_, _, (stepG_semacquire (n := 1) rfl rfl (by k_ne) rfl H.f_semacquire (x_semacquire_n L) (x_semacquire_b L) (x_semacquire_x L) (x_semacquire_f L) (by simp [Act.eval, smA]) hf.cellSm (by k_ne) (hf.thaw 1)).trans (by rfl), .inr rfl, 60, ?_⟩
      replace hF : WgLive L.tWg Wg (w₃.setCell (smA Wg) (.int .u32 0)) := ⟨_, _, hf.setSm 0⟩
      clear hf
      walk_nrm
      u_c stepG_region_end rlive_rl hF
      u_c stepG_seq rlive_rl hF
      u_reg rlive_rl hF
      u_op rlive_rl hF
      u_op rlive_rl hF
      u_op rlive_rl hF
      u_call H.f_uLoad (nm_uLoad L) uLoadFn rlive_rl hF
      u_c stepG_seq rlive_rl hF
      u_reg rlive_rl hF
      u_op rlive_rl hF
      u_c stepG_region_end rlive_rl hF
      u_c stepG_seq rlive_rl hF
      u_reg rlive_rl hF
      u_op rlive_rl hF
      u_op rlive_rl hF
      u_op rlive_rl hF
      refine Goes.stop (fun w₄ h₄ => ?_)
      replace hF := rlive_rl hF h₄
      clear h₄
      refine ⟨rfl, fun hw => ⟨_, _, stepG_load_atomic (v := 0) rfl rfl (by k_ne) rfl H.f_loadU64 (x_loadU64_n L) (x_loadU64_b L) (x_loadU64_x L) .u64 (x_loadU64_f L) rfl hw.cellSt, evA_cell _ _ rfl, 60, ?_⟩⟩
      clear hw
      walk_nrm
      u_op rlive_rl hF
      u_c stepG_region_end rlive_rl hF
      u_c stepG_ret' rlive_rl hF
      u_leave1 H.f_uLoad rlive_rl hF
      u_op rlive_rl hF
      u_op rlive_rl hF
      u_c stepG_region_end rlive_rl hF
      u_c stepG_seq rlive_rl hF
      u_cond true rlive_rl hF
      u_c stepG_seq rlive_rl hF
      u_reg rlive_rl hF
      refine Goes.stop (fun w₅ h₅ => ?_)
      replace hF := rlive_rl hF h₅
      clear h₅
      refine ⟨rfl, fun w hF => ⟨_, stepG_mark0 .enable (by simp) rfl rfl (by k_ne) rfl H.f_enable (x_enable_n L) (x_enable_b L) (x_enable_x L) (x_enable_f L), 12, ?_⟩⟩
      walk_nrm
      u_c stepG_region_end rlive_rl hF
      u_reg rlive_rl hF
      u_op rlive_rl hF
      u_conv H.underlying_tWgP H.room_tWg (Go.ConcN.Gen.WgLive.cell0 hF).choose_spec rlive_rl hF
      refine Goes.stop (fun w₆ h₆ => ?_)
      replace hF := rlive_rl hF h₆
      clear h₆
      refine ⟨rfl, fun w hF => ⟨_, stepG_markAt .acquire (by simp) rfl rfl (by k_ne) rfl H.f_acquire (x_acquire_n L) (x_acquire_b L) (x_acquire_x L) (x_acquire_f L) (by simp [Act.eval, stA, smA] <;> rfl), 40, ?_⟩⟩
      walk_nrm
      u_c stepG_region_end rlive_rl hF
      u_c stepG_seq rlive_rl hF
      u_c stepG_seq rlive_rl hF
      u_reg rlive_rl hF
      u_op rlive_rl hF
      u_c stepG_region_end rlive_rl hF
      u_cond false rlive_rl hF
      u_c stepG_skip rlive_rl hF
      u_c stepG_ret' rlive_rl hF
      u_leave0 H.f_wait rlive_rl hF
      exact Goes.stop fun _ _ => rfl
    · refine ⟨_, _, stepG_cas_miss (v := (v' : Int) * KK) (old := S) (n := S + 1) rfl rfl (by k_ne) rfl H.f_casU64 (x_casU64_n L) (x_casU64_b L) (x_casU64_x L) .u64 (x_casU64_f L) rfl rfl rfl hw.cellSt (hw.thaw 0) (by rw [← hS]; simp only [KK]; omega), evA_cell _ _ rfl, 30, ?_⟩
      clear hw
      walk_nrm
      u_op rlive_rl hF
      u_c stepG_region_end rlive_rl hF
      u_c stepG_ret' rlive_rl hF
      u_leave1 H.f_uCas rlive_rl hF
      u_c stepG_region_end rlive_rl hF
      u_cond false rlive_rl hF
      u_c stepG_skip rlive_rl hF
      u_c stepG_inBlock rlive_rl hF
      u_c stepG_inLoop rlive_rl hF
      refine Goes.stop (fun w₃ h₃ => ?_)
      replace hF := rlive_rl hF h₃
      exact ⟨_, rfl, by simp, by simp, trivial, hF⟩

set_option maxRecDepth 100000 in
/-- From its entry to the loop's head. -/
theorem wait_start (H : WgLib P L) {R : World → World → Prop} (w : World) :
    Goes P true R D0 (fun g w => g.status = .running ∧ ∀ w₁, ∃ g', stepG P true g w₁ = .go g' w₁ #[mk .disable] ∧ (WgLive L.tWg Wg w₁ → ∃ m, Goes P true (RLive L.tWg Wg) D0 (AnchWN L (fun _ => True) Wg (b₀.at a₀ (.inRegion ops₀ (i₀ :: rest₀) :: k₀)) cs) m g' w₁)) 3
      (G ((base L.wait).at ⟨#[.pointer (some ⟨Wg, 0, none⟩), undef, undef, undef, undef, undef, undef, undef, undef, undef, undef, undef, undef, undef, undef, undef, undef, undef, undef, undef, undef, undef, undef, undef, undef, undef, undef, undef, undef, undef, undef, undef, undef, undef, undef, undef, undef, undef, undef, undef, undef, undef, undef, undef, undef, undef, undef, undef, undef, undef, undef, undef, undef, undef, undef, undef, undef, undef, undef, undef, undef, undef, undef, undef, undef, undef, undef, undef, undef, undef, undef, undef, undef, undef, undef, undef, undef, undef, undef, undef, undef, undef, undef, undef], []⟩ [.code (Go.ConcR.Gen.body_wait L)]) (b₀.at a₀ (.inRegion ops₀ (i₀ :: rest₀) :: k₀) :: cs)) w := by
  lib_facts
  have hF : True := trivial
  have rl : ∀ {w w₁ : World}, True → R w w₁ → True := fun _ _ => trivial
  simp only [body_wait, waitFn, Option.getD_some]
  u_c stepG_seq rl hF
  u_cond true rl hF
  u_reg rl hF
  refine Goes.stop (fun w₁ h₁ => ⟨rfl, fun w₂ => ⟨_, stepG_mark0 .disable (by simp) rfl rfl (by k_ne) rfl H.f_disable (x_disable_n L) (x_disable_b L) (x_disable_x L) (x_disable_f L), fun hF => ⟨3, ?_⟩⟩⟩)
  walk_nrm
  u_c stepG_region_end rlive_rl hF
  u_c stepG_block rlive_rl hF
  u_c stepG_loop rlive_rl hF
  exact Goes.stop (fun w₂ h₂ => ⟨_, rfl, by simp, by simp, trivial, rlive_rl hF h₂⟩)
end
end Cw
end

/-! ### CwR3 -/
section
set_option linter.unusedSimpArgs false
open Go Go.Conc Go.RowKit Go.ConcR.Gen Cw

/-- What main is about to do inside Wait. -/
def InWait (wg ev : Nat) (cs : List Frame) (g : Goroutine) : Prop :=
  ∃ T : Array Value, T.size = 79 ∧ T[6]? = some (pb ev) ∧ g.status = .running ∧ ∀ w₁, ∃ g', stepG Tryd.prog true g w₁ = .go g' w₁ #[Go.ConcR.mk .disable] ∧ (Go.ConcN.WgLive link.tWg wg w₁ →
    ∃ m, Goes Tryd.prog true (RLive link.tWg wg) Cw.D0 (Go.ConcN.Gen.AnchWN link (fun _ => True) wg ((base 6).at ⟨T, []⟩ (.inRegion (opsOf (lf cd10)) [0] :: [.code (rt cd10)])) cs) m g' w₁)

set_option maxRecDepth 100000 in
set_option maxHeartbeats 2000000 in
theorem t_wait {X : Cx} {R : World → World → Prop} {Q : World → Prop} (hRt : ∀ a b c, R a b → R b c → R a c) (hrl : ∀ w w', Q w → R w w' → Q w') {wg ev : Nat} (cs : List Frame) (g : Goroutine) (w : World) (hF : Q w) (hg : AtWait wg ev cs g) :
    Goes Tryd.prog true R (HDq X) (fun g _ => InWait wg ev cs g) 6 g w := by
  obtain ⟨T, hT, h6, h8, rfl⟩ := hg
  have hT' := hT
  have h6' := h6
  obtain ⟨v0, v1, v2, v3, v4, v5, v6, v7, v8, v9, v10, v11, v12, v13, v14, v15, v16, v17, v18, v19, v20, v21, v22, v23, v24, v25, v26, v27, v28, v29, v30, v31, v32, v33, v34, v35, v36, v37, v38, v39, v40, v41, v42, v43, v44, v45, v46, v47, v48, v49, v50, v51, v52, v53, v54, v55, v56, v57, v58, v59, v60, v61, v62, v63, v64, v65, v66, v67, v68, v69, v70, v71, v72, v73, v74, v75, v76, v77, v78, rfl⟩ := array79 T hT
  simp only [List.getElem?_toArray, List.getElem?_cons_zero, List.getElem?_cons_succ, Option.some.injEq] at h8
  subst h8
  generalize ht : (#[v0, v1, v2, v3, v4, v5, v6, v7, pb wg, v9, v10, v11, v12, v13, v14, v15, v16, v17, v18, v19, v20, v21, v22, v23, v24, v25, v26, v27, v28, v29, v30, v31, v32, v33, v34, v35, v36, v37, v38, v39, v40, v41, v42, v43, v44, v45, v46, v47, v48, v49, v50, v51, v52, v53, v54, v55, v56, v57, v58, v59, v60, v61, v62, v63, v64, v65, v66, v67, v68, v69, v70, v71, v72, v73, v74, v75, v76, v77, v78] : Array Value) = T at *
  have h8 : T.getD 8 undef = pb wg := by subst ht; rfl
  have hd : ∀ (w w' : World) (es : Array Event), Cw.D0 w w' es → HDq X w w' es := fun w w' es h => by obtain ⟨rfl, rfl⟩ := h; exact hdq_idle X _
  refine Goes.step rfl (fun w hr => ?_)
  clear hr
  refine goes_call (c := Go.ConcR.Gen.body_wait link) (f := 21) (args := #[.tmp 8]) (ats := #[62]) rfl rfl (by k_ne) rfl wgLib.f_wait rfl rfl ⟨hdq_idle _ _, ?_⟩
  have := goes_imp (R := R) (R' := R) (fun _ _ x => x) hd (fun g w h => (⟨T, hT', h6', h⟩ : InWait wg ev cs g)) (wait_start (Wg := wg) (b₀ := base 6) (a₀ := ⟨T, []⟩) (ops₀ := opsOf (lf cd10)) (i₀ := 0) (rest₀ := []) (k₀ := [.code (rt cd10)]) (cs := cs) wgLib (R := R) w)
  refine Goes.mono (n := 3) ?_ (by omega)
  simp only [show (Go.Conc.Lib.waitFn link).ntmps = 84 from rfl, List.map_toArray, List.map_cons, List.map_nil, Act.eval, h8, List.size_toArray, List.length_cons, List.length_nil, Nat.reduceAdd, Nat.reduceSub, Array.replicate_succ, Array.replicate_zero, List.push_toArray, List.append_toArray, List.nil_append, List.cons_append]
  exact this

set_option maxRecDepth 100000 in
/-- Behind Wait: Run returns. -/
theorem t_ret {X : Cx} {R : World → World → Prop} {Q : World → Prop} {mn : Bool} {Stop : Goroutine → World → Prop} {m : Nat} (hrl : ∀ w w', Q w → R w w' → Q w') {ev : Nat} (u : Value) (hc : ∀ w, Q w → w.cell? ⟨ev, 0, none⟩ = some u) (hsh : ¬ X.Sh (.cell ⟨ev, 0, none⟩)) (hu : ∃ a n c, u = .slice a n c) {b₀ : Frame} {a₀ : Act} {ops : Array Oper} {j : Nat} {rest : List Nat} {k : List Item} (cs : List Frame) (w : World) (hF : Q w) (T : Array Value) (hT : T.size = 79) (h6 : T[6]? = some (pb ev))
    (hN : ∀ w, Q w → Goes Tryd.prog mn R (HDq X) Stop m (G (b₀.at (a₀.put ((ops[j]?).bind (·.dst)) (.tuple #[u, .int .i64 0])) (.inRegion ops rest :: k)) cs) w) :
    Goes Tryd.prog mn R (HDq X) Stop (m + 9) (G ((base 6).at (Act.put ⟨T, []⟩ (((opsOf (lf cd10))[0]?).bind (·.dst)) (.tuple #[])) (.inRegion (opsOf (lf cd10)) [] :: [.code (rt cd10)])) (b₀.at a₀ (.inRegion ops (j :: rest) :: k) :: cs)) w := by
  obtain ⟨a, n, c, rfl⟩ := hu
  obtain ⟨v0, v1, v2, v3, v4, v5, v6, v7, v8, v9, v10, v11, v12, v13, v14, v15, v16, v17, v18, v19, v20, v21, v22, v23, v24, v25, v26, v27, v28, v29, v30, v31, v32, v33, v34, v35, v36, v37, v38, v39, v40, v41, v42, v43, v44, v45, v46, v47, v48, v49, v50, v51, v52, v53, v54, v55, v56, v57, v58, v59, v60, v61, v62, v63, v64, v65, v66, v67, v68, v69, v70, v71, v72, v73, v74, v75, v76, v77, v78, rfl⟩ := array79 T hT
  simp only [List.getElem?_toArray, List.getElem?_cons_zero, List.getElem?_cons_succ, Option.some.injEq] at h6
  subst h6
  simp only [cd10, cd9, cd8, bodyM, rt, lf, opsOf, Tryd.f6, Option.getD_some]
  walk_nrm
  refine Goes.step rfl (fun w hr => ?_)
  replace hF := (hrl _ _) hF hr
  clear hr
  rw [stepG_region_end]
  simp only [goes_go]
  refine ⟨hdq_idle _ _, ?_⟩
  refine Goes.step rfl (fun w hr => ?_)
  replace hF := (hrl _ _) hF hr
  clear hr
  rw [stepG_seq]
  simp only [goes_go]
  refine ⟨hdq_idle _ _, ?_⟩
  refine Goes.step rfl (fun w hr => ?_)
  replace hF := (hrl _ _) hF hr
  clear hr
  rw [stepG_region]
  simp only [goes_go, List.size_toArray, List.length_cons, List.length_nil, Nat.reduceAdd, Nat.zero_add, List.range, List.range.loop]
  refine ⟨hdq_idle _ _, ?_⟩
  refine Goes.step rfl (fun w hr => ?_)
  replace hF := (hrl _ _) hF hr
  clear hr
  have hcx := hc w hF
  refine goes_oper_k rfl rfl (by k_ne) (fun K hK => ?_)
  go_simp
  refine hK _ _ ⟨?_, ?_⟩
  · refine hdq_read (fun e he => ?_)
    have hm := mem_listed he
    simp [go_sem, *] at hm
    exact ⟨_, hm, block_of_cell hcx, hsh⟩
  clear hK K
  try walk_nrm
  refine Goes.step rfl (fun w hr => ?_)
  replace hF := (hrl _ _) hF hr
  clear hr
  refine goes_oper_k rfl rfl (by k_ne) (fun K hK => ?_)
  go_simp
  refine hK _ _ ⟨?_, ?_⟩
  · rw [listed_nil (by simp [go_sem])]; exact hdq_idle _ _
  clear hK K
  try walk_nrm
  refine Goes.step rfl (fun w hr => ?_)
  replace hF := (hrl _ _) hF hr
  clear hr
  refine goes_oper_k rfl rfl (by k_ne) (fun K hK => ?_)
  go_simp
  refine hK _ _ ⟨?_, ?_⟩
  · rw [listed_nil (by simp [go_sem])]; exact hdq_idle _ _
  clear hK K
  try walk_nrm
  refine Goes.step rfl (fun w hr => ?_)
  replace hF := (hrl _ _) hF hr
  clear hr
  rw [stepG_region_end]
  simp only [goes_go]
  refine ⟨hdq_idle _ _, ?_⟩
  refine Goes.step rfl (fun w hr => ?_)
  replace hF := (hrl _ _) hF hr
  clear hr
  rw [stepG_ret']
  simp only [goes_go]
  refine ⟨hdq_idle _ _, ?_⟩
  refine Goes.step rfl (fun w hr => ?_)
  replace hF := (hrl _ _) hF hr
  clear hr
  refine goes_leave2 rfl rfl Tryd.func6 rfl ⟨hdq_idle _ _, ?_⟩
  exact hN _ hF
end

/-! ### CwK -/
section
set_option linter.unusedSimpArgs false
open Go Go.Conc Go.RowKit Go.ConcR.Gen Cw

noncomputable def cd7 : Code := rt (rt (rt (rt (rt (rt (rt bodyM))))))
noncomputable def rnd1 : Code := inner (inner (rt (lf cd7)))
/-- At the head of the spawn loop: task number i is next. -/
def Head1 (ps wk tk : Value) (n i wg ev : Nat) (cs : List Frame) (g : Goroutine) : Prop :=
  ∃ T : Array Value, T.size = 79 ∧ T[0]? = some ps ∧ T[7]? = some wk ∧ T[6]? = some (pb ev) ∧ T[8]? = some (pb wg) ∧ T[33]? = some tk ∧ T[34]? = some (.int .i64 n) ∧ T[35]? = some (.int .i64 i) ∧
    g = G ((base 6).at ⟨T, []⟩ [.code rnd1, .inLoop rnd1, .inBlock 0, .code cd8]) cs
/-- What is left of a round behind the block. -/
noncomputable def todo1 : List Item := [.inBlock 1, .code (rt (rt (rt rnd1))), .inLoop rnd1, .inBlock 0, .code cd8]
noncomputable def blk1 : Code := inner (lf (rt (rt rnd1)))
noncomputable def opsGo : Array Oper := opsOf (rt (rt (rt (rt blk1))))

theorem go_spawn {mn : Bool} (wg bw bt ev bi : Nat) (T : Array Value) (h49 : T.getD 49 undef = .func (.func 16) #[] #[pb wg, pb bw, pb bt, pb ev, pb bi]) (cs : List Frame) (w : World) :
    stepG Tryd.prog mn (G ((base 6).at ⟨T, []⟩ (.inRegion opsGo [1] :: todo1)) cs) w = .spawn (G ((base 6).at ⟨T, []⟩ (.inRegion opsGo [] :: todo1)) cs) (born Tryd.prog (callW wg bw bt ev bi)) w #[] := by
  obtain ⟨ps, ho⟩ : ∃ ps, opsGo[1]? = some { dst := none, op := .go { callee := .value (.tmp 49), args := #[], argTypes := #[] }, type := 0, pos := ps, after := #[{ on := 0, ground := .data }], guard := none } := by
    refine ⟨((opsGo[1]?).map (fun o => o.pos)).getD "", ?_⟩
    simp only [opsGo, blk1, rnd1, cd7, bodyM, inner, rt, lf, opsOf, Tryd.f6, Option.getD_some]
    rfl
  refine (stepG_spawn ho rfl (by k_ne) (d := callW wg bw bt ev bi) (w' := w) ?_ rfl).trans ?_
  · simp [execOp, resolve, Deferred.ofValue, Act.eval, h49, callW]
  · rw [listed_nil (by simp [execOp, resolve, Deferred.ofValue, Act.eval, h49])]
    rfl

section
variable {X : Cx} {R : World → World → Prop} {Q : World → Prop} {mn : Bool}
set_option maxRecDepth 100000 in
/-- Behind the go statement, to the loop's head. -/
theorem h_next {Stop : Goroutine → World → Prop} {m : Nat} (hrl : ∀ w w', Q w → R w w' → Q w') {ps wk tk : Value} {n i wg ev : Nat} (hi : i < n) (hn : n < 9223372036854775807) (cs : List Frame) (w : World) (hF : Q w) (T : Array Value) (hT : T.size = 79) (h0 : T[0]? = some ps) (h7 : T[7]? = some wk) (h6 : T[6]? = some (pb ev)) (h8 : T[8]? = some (pb wg)) (h33 : T[33]? = some tk) (h34 : T[34]? = some (.int .i64 n)) (h35 : T[35]? = some (.int .i64 i))
    (hN : ∀ g w, Head1 ps wk tk n (i + 1) wg ev cs g → Q w → Goes Tryd.prog mn R (HDq X) Stop m g w) :
    Goes Tryd.prog mn R (HDq X) Stop (m + 7) (G ((base 6).at ⟨T, []⟩ (.inRegion opsGo [] :: todo1)) cs) w := by
  have hwr : IntKind.i64.wrap ((i : Int) + 1) = ((i + 1 : Nat) : Int) := by rw [IntKind.wrap_i64]; omega
  obtain ⟨v0, v1, v2, v3, v4, v5, v6, v7, v8, v9, v10, v11, v12, v13, v14, v15, v16, v17, v18, v19, v20, v21, v22, v23, v24, v25, v26, v27, v28, v29, v30, v31, v32, v33, v34, v35, v36, v37, v38, v39, v40, v41, v42, v43, v44, v45, v46, v47, v48, v49, v50, v51, v52, v53, v54, v55, v56, v57, v58, v59, v60, v61, v62, v63, v64, v65, v66, v67, v68, v69, v70, v71, v72, v73, v74, v75, v76, v77, v78, rfl⟩ := array79 T hT
  simp only [List.getElem?_toArray, List.getElem?_cons_zero, List.getElem?_cons_succ, Option.some.injEq] at h0 h7 h6 h8 h33 h34 h35
  subst h0
  subst h7
  subst h6
  subst h8
  subst h33
  subst h34
  subst h35
  unfold todo1
  simp only [opsGo, blk1, rnd1, cd8, cd7, bodyM, inner, rt, lf, opsOf, Tryd.f6, Option.getD_some]
  refine Goes.step rfl (fun w hr => ?_)
  replace hF := (hrl _ _) hF hr
  clear hr
  rw [stepG_region_end]
  simp only [goes_go]
  refine ⟨hdq_idle _ _, ?_⟩
  refine Goes.step rfl (fun w hr => ?_)
  replace hF := (hrl _ _) hF hr
  clear hr
  rw [stepG_inBlock]
  simp only [goes_go]
  refine ⟨hdq_idle _ _, ?_⟩
  refine Goes.step rfl (fun w hr => ?_)
  replace hF := (hrl _ _) hF hr
  clear hr
  rw [stepG_region]
  simp only [goes_go, List.size_toArray, List.length_cons, List.length_nil, Nat.reduceAdd, Nat.zero_add, List.range, List.range.loop]
  refine ⟨hdq_idle _ _, ?_⟩
  refine Goes.step rfl (fun w hr => ?_)
  replace hF := (hrl _ _) hF hr
  clear hr
  refine goes_oper_k rfl rfl (by k_ne) (fun K hK => ?_)
  go_simp
  refine hK _ _ ⟨?_, ?_⟩
  · rw [listed_nil (by simp [go_sem])]; exact hdq_idle _ _
  clear hK K
  try walk_nrm
  refine Goes.step rfl (fun w hr => ?_)
  replace hF := (hrl _ _) hF hr
  clear hr
  refine goes_oper_k rfl rfl (by k_ne) (fun K hK => ?_)
  go_simp
  refine hK _ _ ⟨?_, ?_⟩
  · rw [listed_nil (by simp [go_sem])]; exact hdq_idle _ _
  clear hK K
  try walk_nrm
  refine Goes.step rfl (fun w hr => ?_)
  replace hF := (hrl _ _) hF hr
  clear hr
  rw [stepG_region_end]
  simp only [goes_go]
  refine ⟨hdq_idle _ _, ?_⟩
  refine Goes.step rfl (fun w hr => ?_)
  replace hF := (hrl _ _) hF hr
  clear hr
  rw [stepG_inLoop]
  simp only [goes_go]
  refine ⟨hdq_idle _ _, ?_⟩
  refine hN _ _ ⟨_, ?_, ?_, ?_, ?_, ?_, ?_, ?_, ?_, rfl⟩ hF <;> rfl
end
end
end Go.Proofs.YtggfcdhkgldbfaaDoor
