/-
  PARTS of a claim, merged by segs.py: NwV.
-/
import Derived.Test.YtggfcdhkgldbfaaN07
import Derived.Conc.WgGenN3
namespace Go.Proofs.Ytggfcdhkgldbfaa
set_option linter.unusedSimpArgs false
set_option linter.unusedVariables false

/-! ### NwV -/
section
namespace Cw
open Go Go.Conc Go.ConcN Go.RowKit Go.Conc.Lib Go.ConcR.Gen
open Go.ConcR (KK wgBlock WgAt stA smA rd wr mk Payload DC0)
open Go.ConcN.Gen (AnchWN)

theorem rlive_rl {ty : TypeId} {Wg : Nat} {w w₁ : World} (h : WgLive ty Wg w) (r : RLive ty Wg w w₁) : WgLive ty Wg w₁ := r h

section
variable {L : WgLink} {Wg : Nat} (mn : Bool) (b₀ : Frame) (a₀ : Act) (ops₀ : Array Oper) (i₀ : Nat) (rest₀ : List Nat) (k₀ : List Item) (cs : List Frame)
/-- The caller goes on behind the Wait. -/
def Back (g : Goroutine) (_ : World) : Prop := g = G (b₀.at (a₀.put ((ops₀[i₀]?).bind (·.dst)) (.tuple #[])) (.inRegion ops₀ rest₀ :: k₀)) cs
/-- At the acquire. -/
def AtQ (P : Program) (ty : TypeId) (Wg : Nat) (g : Goroutine) (_ : World) : Prop :=
  g.status = .running ∧ ∀ w, WgLive ty Wg w → ∃ g', stepG P mn g w = .go g' w #[mk (.acquire (stA Wg))] ∧ ∃ m, Goes P mn (RLive ty Wg) D0 (Back b₀ a₀ ops₀ i₀ rest₀ k₀ cs) m g' w
/-- At 'enable'. -/
def AtE (P : Program) (ty : TypeId) (Wg : Nat) (g : Goroutine) (_ : World) : Prop :=
  g.status = .running ∧ ∀ w, WgLive ty Wg w → ∃ g', stepG P mn g w = .go g' w #[mk .enable] ∧ ∃ m, Goes P mn (RLive ty Wg) D0 (AtQ mn b₀ a₀ ops₀ i₀ rest₀ k₀ cs P ty Wg) m g' w
end

theorem evA_cell {Wg : Nat} (a : Addr) (x : Bool) (h : a.block = Wg) : EvA Wg #[⟨.cell a, x, true⟩] := .inl fun e he => by
  simp only [List.mem_toArray, List.mem_cons, List.not_mem_nil, or_false] at he
  exact .inl ⟨a, x, he, h⟩
theorem evA_cell2 {Wg : Nat} (a a' : Addr) (x x' : Bool) (h : a.block = Wg) (h' : a'.block = Wg) : EvA Wg #[⟨.cell a, x, true⟩, ⟨.cell a', x', true⟩] := .inl fun e he => by
  simp only [List.mem_toArray, List.mem_cons, List.not_mem_nil, or_false] at he
  rcases he with rfl | rfl
  · exact .inl ⟨a, x, rfl, h⟩
  · exact .inl ⟨a', x', rfl, h'⟩
theorem evA_write {Wg : Nat} (a : Addr) (h : a.block = Wg) : EvA Wg #[⟨.mark (.write a), false, true⟩] := .inl fun e he => by
  simp only [List.mem_toArray, List.mem_cons, List.not_mem_nil, or_false] at he
  exact .inr ⟨a, .inr he, h⟩

section
variable {P : Program} {mn : Bool} {L : WgLink} {Wg : Nat} {b₀ : Frame} {a₀ : Act} {ops₀ : Array Oper} {i₀ : Nat} {rest₀ : List Nat} {k₀ : List Item} {cs : List Frame}

set_option maxRecDepth 100000 in
set_option maxHeartbeats 8000000 in
/-- From the loop's head. -/
theorem wait_round (H : WgLib P L) (g : Goroutine) (w : World) (h : AnchWN L (fun _ => True) Wg (b₀.at a₀ (.inRegion ops₀ (i₀ :: rest₀) :: k₀)) cs g w) :
    ∃ m, Goes P mn (RLive L.tWg Wg) D0 (W1 P mn L.tWg Wg (AnchWN L (fun _ => True) Wg (b₀.at a₀ (.inRegion ops₀ (i₀ :: rest₀) :: k₀)) cs) (AtE mn b₀ a₀ ops₀ i₀ rest₀ k₀ cs P L.tWg Wg)) m g w := by
  lib_facts
  obtain ⟨T, rfl, hT84, t0, _, hF⟩ := h
  obtain ⟨v0, v1, v2, v3, v4, v5, v6, v7, v8, v9, v10, v11, v12, v13, v14, v15, v16, v17, v18, v19, v20, v21, v22, v23, v24, v25, v26, v27, v28, v29, v30, v31, v32, v33, v34, v35, v36, v37, v38, v39, v40, v41, v42, v43, v44, v45, v46, v47, v48, v49, v50, v51, v52, v53, v54, v55, v56, v57, v58, v59, v60, v61, v62, v63, v64, v65, v66, v67, v68, v69, v70, v71, v72, v73, v74, v75, v76, v77, v78, v79, v80, v81, v82, v83, rfl⟩ := array84 T hT84
  simp only [List.getElem?_toArray, List.getElem?_cons_zero, Option.some.injEq] at t0
  subst t0
  refine ⟨100, ?_⟩
  simp only [L7, body_wait, waitFn, Option.getD_some]
  u_c stepG_block rlive_rl hF
  u_c stepG_seq rlive_rl hF
  u_reg rlive_rl hF
  u_op rlive_rl hF
  u_op rlive_rl hF
  u_op rlive_rl hF
  u_call H.f_uLoad (nm_uLoad L) uLoadFn rlive_rl hF
  u_c stepG_seq rlive_rl hF
  u_reg rlive_rl hF
  u_op rlive_rl hF
  u_c stepG_region_end rlive_rl hF
  u_c stepG_seq rlive_rl hF
  u_reg rlive_rl hF
  u_op rlive_rl hF
  u_op rlive_rl hF
  u_op rlive_rl hF
  refine Goes.stop (fun w₁ h₁ => ?_)
  replace hF := rlive_rl hF h₁
  clear h₁
  refine ⟨rfl, fun v hv hw => ?_⟩
  rcases Nat.eq_zero_or_pos v with rfl | hvp
  · replace hw : WgAt L.tWg Wg w₁ 0 0 := by simpa using hw
    refine ⟨_, _, stepG_load_atomic (v := 0) rfl rfl (by k_ne) rfl H.f_loadU64 (x_loadU64_n L) (x_loadU64_b L) (x_loadU64_x L) .u64 (x_loadU64_f L) rfl hw.cellSt, evA_cell _ _ rfl, fun _ => ⟨100, ?_⟩, fun h => absurd rfl h⟩
    clear hw
    walk_nrm
    u_op rlive_rl hF
    u_c stepG_region_end rlive_rl hF
    u_c stepG_ret' rlive_rl hF
    u_leave1 H.f_uLoad rlive_rl hF
    u_op rlive_rl hF
    u_c stepG_region_end rlive_rl hF
    u_c stepG_seq rlive_rl hF
    u_reg rlive_rl hF
    u_op rlive_rl hF
    u_op rlive_rl hF
    u_op rlive_rl hF
    u_op rlive_rl hF
    u_c stepG_region_end rlive_rl hF
    u_c stepG_seq rlive_rl hF
    u_reg rlive_rl hF
    u_op rlive_rl hF
    u_op rlive_rl hF
    u_op rlive_rl hF
    u_op rlive_rl hF
    u_c stepG_region_end rlive_rl hF
    u_c stepG_seq rlive_rl hF
    u_c stepG_seq rlive_rl hF
    u_reg rlive_rl hF
    u_op rlive_rl hF
    u_op rlive_rl hF
    u_c stepG_region_end rlive_rl hF
    u_cond true rlive_rl hF
    u_c stepG_seq rlive_rl hF
    u_cond true rlive_rl hF
    u_c stepG_seq rlive_rl hF
    u_reg rlive_rl hF
    refine Goes.stop (fun w₅ h₅ => ?_)
    replace hF := rlive_rl hF h₅
    clear h₅
    refine ⟨rfl, fun w hF => ⟨_, stepG_mark0 .enable (by simp) rfl rfl (by k_ne) rfl H.f_enable (x_enable_n L) (x_enable_b L) (x_enable_x L) (x_enable_f L), 12, ?_⟩⟩
    walk_nrm
    u_c stepG_region_end rlive_rl hF
    u_reg rlive_rl hF
    u_op rlive_rl hF
    u_conv H.underlying_tWgP H.room_tWg (Go.ConcN.Gen.WgLive.cell0 hF).choose_spec rlive_rl hF
    refine Goes.stop (fun w₆ h₆ => ?_)
    replace hF := rlive_rl hF h₆
    clear h₆
    refine ⟨rfl, fun w hF => ⟨_, stepG_markAt .acquire (by simp) rfl rfl (by k_ne) rfl H.f_acquire (x_acquire_n L) (x_acquire_b L) (x_acquire_x L) (x_acquire_f L) (by simp [Act.eval, stA, smA] <;> rfl), 40, ?_⟩⟩
    walk_nrm
    u_c stepG_region_end rlive_rl hF
    u_c stepG_seq rlive_rl hF
    u_c stepG_seq rlive_rl hF
    u_reg rlive_rl hF
    u_op rlive_rl hF
    u_op rlive_rl hF
    u_op rlive_rl hF
    u_op rlive_rl hF
    u_op rlive_rl hF
    u_op rlive_rl hF
    u_op rlive_rl hF
    u_op rlive_rl hF
    u_skip rlive_rl hF
    u_skip rlive_rl hF
    u_op rlive_rl hF
    u_c stepG_region_end rlive_rl hF
    u_cond false rlive_rl hF
    u_c stepG_skip rlive_rl hF
    u_c stepG_ret' rlive_rl hF
    u_leave0 H.f_wait rlive_rl hF
    exact Goes.stop fun _ _ => rfl
  · obtain ⟨S, hS⟩ : ∃ S : Int, (v : Int) * KK = S := ⟨_, rfl⟩
    have a1 : S / 4294967296 = (v : Int) := by rw [← hS]; simp only [KK]; omega
    have b1 : bits .and .u64 S 2147483648 = 0 := by rw [← hS]; have := st_flag v 0 (by omega) (by omega); simpa [KK] using this
    have b2 : bits .and .u64 S 2147483647 = 0 := by rw [← hS]; have := st_waiters v 0 (by omega) (by omega); simpa [KK] using this
    have c1 : IntKind.i32.wrap (v : Int) = (v : Int) := by rw [IntKind.wrap_i32]; omega
    have w1 : IntKind.u64.wrap (S + 1) = S + 1 := by rw [IntKind.wrap_u64, ← hS]; simp only [KK]; omega
    have q3 : decide ((v : Int) < 0) = false := decide_eq_false (by omega)
    have q4 : decide (0 < (v : Int)) = true := decide_eq_true (by omega)
    have q5 : ((v : Int) == 0) = false := by simp; omega
    have q6 : decide ((v : Int) = 0) = false := decide_eq_false (by omega)
    rw [hS] at hw
    refine ⟨_, _, stepG_load_atomic (v := S) rfl rfl (by k_ne) rfl H.f_loadU64 (x_loadU64_n L) (x_loadU64_b L) (x_loadU64_x L) .u64 (x_loadU64_f L) rfl hw.cellSt, evA_cell _ _ rfl, fun h0 => absurd h0 (by omega), fun _ => ⟨100, ?_⟩⟩
    clear hw
    walk_nrm
    u_op rlive_rl hF
    u_c stepG_region_end rlive_rl hF
    u_c stepG_ret' rlive_rl hF
    u_leave1 H.f_uLoad rlive_rl hF
    u_op rlive_rl hF
    u_c stepG_region_end rlive_rl hF
    u_c stepG_seq rlive_rl hF
    u_reg rlive_rl hF
    u_op rlive_rl hF
    u_op rlive_rl hF
    u_op rlive_rl hF
    u_op rlive_rl hF
    u_c stepG_region_end rlive_rl hF
    u_c stepG_seq rlive_rl hF
    u_reg rlive_rl hF
    u_op rlive_rl hF
    u_op rlive_rl hF
    u_op rlive_rl hF
    u_op rlive_rl hF
    u_c stepG_region_end rlive_rl hF
    u_c stepG_seq rlive_rl hF
    u_c stepG_seq rlive_rl hF
    u_reg rlive_rl hF
    u_op rlive_rl hF
    u_op rlive_rl hF
    u_c stepG_region_end rlive_rl hF
    u_cond false rlive_rl hF
    u_c stepG_skip rlive_rl hF
    u_c stepG_seq rlive_rl hF
    u_reg rlive_rl hF
    u_op rlive_rl hF
    u_op rlive_rl hF
    u_op rlive_rl hF
    u_op rlive_rl hF
    u_op rlive_rl hF
    u_op rlive_rl hF
    u_call H.f_uCas (nm_uCas L) uCasFn rlive_rl hF
    u_c stepG_seq rlive_rl hF
    u_reg rlive_rl hF
    u_op rlive_rl hF
    u_c stepG_region_end rlive_rl hF
    u_c stepG_seq rlive_rl hF
    u_reg rlive_rl hF
    u_op rlive_rl hF
    u_op rlive_rl hF
    u_op rlive_rl hF
    u_op rlive_rl hF
    u_op rlive_rl hF
    refine Goes.stop (fun w₂ h₂ => ?_)
    replace hF := rlive_rl hF h₂
    clear h₂
    refine ⟨rfl, fun v' hv' hw => ⟨fun e => ?_, fun e => ?_⟩⟩
    · subst e
      rw [hS] at hw ⊢
      refine ⟨_, _, (stepG_cas_hit (v := S) (n := S + 1) rfl rfl (by k_ne) rfl H.f_casU64 (x_casU64_n L) (x_casU64_b L) (x_casU64_x L) .u64 (x_casU64_f L) rfl rfl rfl hw.cellSt (hw.thaw 0)).trans (by rfl), evA_cell2 _ _ _ _ rfl rfl, 70, ?_⟩
      replace hF : WgLive L.tWg Wg (w₂.setCell (stA Wg) (.int .u64 (S + 1))) := ⟨_, _, hw.setSt _⟩
      clear hw
      walk_nrm
      u_op rlive_rl hF
      u_c stepG_region_end rlive_rl hF
      u_c stepG_ret' rlive_rl hF
      u_leave1 H.f_uCas rlive_rl hF
      u_c stepG_region_end rlive_rl hF
      u_cond true rlive_rl hF
      u_c stepG_seq rlive_rl hF
      u_c stepG_seq rlive_rl hF
      u_reg rlive_rl hF
      u_op rlive_rl hF
      u_op rlive_rl hF
      u_op rlive_rl hF
      u_op rlive_rl hF
      u_c stepG_region_end rlive_rl hF
      u_cond true rlive_rl hF
      u_reg rlive_rl hF
      u_op rlive_rl hF
      u_op rlive_rl hF
      u_op rlive_rl hF
      u_conv H.underlying_tPU32 H.room_tU32 (Go.ConcN.Gen.WgLive.cell1 hF).choose_spec rlive_rl hF
      refine Goes.stop (fun w₇ h₇ => ?_)
      replace hF := rlive_rl hF h₇
      clear h₇
      refine ⟨rfl, _, _, stepG_markAt .write (by simp) rfl rfl (by k_ne) rfl H.f_raceWrite (x_raceWrite_n L) (x_raceWrite_b L) (x_raceWrite_x L) (x_raceWrite_f L) (by simp [Act.eval, stA, smA] <;> rfl), evA_write ⟨Wg, 1, none⟩ rfl, 60, ?_⟩
      walk_nrm
      u_c stepG_region_end rlive_rl hF
      u_c stepG_seq rlive_rl hF
      u_reg rlive_rl hF
      u_op rlive_rl hF
      u_c stepG_region_end rlive_rl hF
      u_c stepG_seq rlive_rl hF
      u_c stepG_seq rlive_rl hF
      u_reg rlive_rl hF
      u_op rlive_rl hF
      u_op rlive_rl hF
      u_op rlive_rl hF
      u_op rlive_rl hF
      u_skip rlive_rl hF
      u_op rlive_rl hF
      u_c stepG_region_end rlive_rl hF
      u_cond false rlive_rl hF
      u_c stepG_skip rlive_rl hF
      u_c stepG_seq rlive_rl hF
      u_reg rlive_rl hF
      u_op rlive_rl hF
      u_op rlive_rl hF
      u_op rlive_rl hF
      u_op rlive_rl hF
      refine Goes.stop (fun w₃ h₃ => ?_)
      replace hF := rlive_rl hF h₃
      clear h₃
      refine ⟨rfl, rfl, fun ⟨st, hw⟩ => stepG_semacquire_wait rfl rfl rfl H.f_semacquire (x_semacquire_n L) (x_semacquire_b L) (x_semacquire_x L) (x_semacquire_f L) (by simp [Act.eval, smA]) hw.cellSm, fun hf => ?_⟩
      refine ⟨_, _, (stepG_semacquire (n := 1) rfl rfl (by k_ne) rfl H.f_semacquire (x_semacquire_n L) (x_semacquire_b L) (x_semacquire_x L) (x_semacquire_f L) (by simp [Act.eval, smA]) hf.cellSm (by k_ne) (hf.thaw 1)).trans (by rfl), .inr rfl, 60, ?_⟩
      replace hF : WgLive L.tWg Wg (w₃.setCell (smA Wg) (.int .u32 0)) := ⟨_, _, hf.setSm 0⟩
      clear hf
      walk_nrm
      u_c stepG_region_end rlive_rl hF
      u_c stepG_seq rlive_rl hF
      u_reg rlive_rl hF
      u_op rlive_rl hF
      u_op rlive_rl hF
      u_op rlive_rl hF
      u_call H.f_uLoad (nm_uLoad L) uLoadFn rlive_rl hF
      u_c stepG_seq rlive_rl hF
      u_reg rlive_rl hF
      u_op rlive_rl hF
      u_c stepG_region_end rlive_rl hF
      u_c stepG_seq rlive_rl hF
      u_reg rlive_rl hF
      u_op rlive_rl hF
      u_op rlive_rl hF
      u_op rlive_rl hF
      refine Goes.stop (fun w₄ h₄ => ?_)
      replace hF := rlive_rl hF h₄
      clear h₄
      refine ⟨rfl, fun hw => ⟨_, _, stepG_load_atomic (v := 0) rfl rfl (by k_ne) rfl H.f_loadU64 (x_loadU64_n L) (x_loadU64_b L) (x_loadU64_x L) .u64 (x_loadU64_f L) rfl hw.cellSt, evA_cell _ _ rfl, 60, ?_⟩⟩
      clear hw
      walk_nrm
      u_op rlive_rl hF
      u_c stepG_region_end rlive_rl hF
      u_c stepG_ret' rlive_rl hF
      u_leave1 H.f_uLoad rlive_rl hF
      u_op rlive_rl hF
      u_op rlive_rl hF
      u_c stepG_region_end rlive_rl hF
      u_c stepG_seq rlive_rl hF
      u_cond true rlive_rl hF
      u_c stepG_seq rlive_rl hF
      u_reg rlive_rl hF
      refine Goes.stop (fun w₅ h₅ => ?_)
      replace hF := rlive_rl hF h₅
      clear h₅
      refine ⟨rfl, fun w hF => ⟨_, stepG_mark0 .enable (by simp) rfl rfl (by k_ne) rfl H.f_enable (x_enable_n L) (x_enable_b L) (x_enable_x L) (x_enable_f L), 12, ?_⟩⟩
      walk_nrm
      u_c stepG_region_end rlive_rl hF
      u_reg rlive_rl hF
      u_op rlive_rl hF
      u_conv H.underlying_tWgP H.room_tWg (Go.ConcN.Gen.WgLive.cell0 hF).choose_spec rlive_rl hF
      refine Goes.stop (fun w₆ h₆ => ?_)
      replace hF := rlive_rl hF h₆
      clear h₆
      refine ⟨rfl, fun w hF => ⟨_, stepG_markAt .acquire (by simp) rfl rfl (by k_ne) rfl H.f_acquire (x_acquire_n L) (x_acquire_b L) (x_acquire_x L) (x_acquire_f L) (by simp [Act.eval, stA, smA] <;> rfl), 40, ?_⟩⟩
      walk_nrm
      u_c stepG_region_end rlive_rl hF
      u_c stepG_seq rlive_rl hF
      u_c stepG_seq rlive_rl hF
      u_reg rlive_rl hF
      u_op rlive_rl hF
      u_c stepG_region_end rlive_rl hF
      u_cond false rlive_rl hF
      u_c stepG_skip rlive_rl hF
      u_c stepG_ret' rlive_rl hF
      u_leave0 H.f_wait rlive_rl hF
      exact Goes.stop fun _ _ => rfl
    · refine ⟨_, _, stepG_cas_miss (v := (v' : Int) * KK) (old := S) (n := S + 1) rfl rfl (by k_ne) rfl H.f_casU64 (x_casU64_n L) (x_casU64_b L) (x_casU64_x L) .u64 (x_casU64_f L) rfl rfl rfl hw.cellSt (hw.thaw 0) (by rw [← hS]; simp only [KK]; omega), evA_cell _ _ rfl, 30, ?_⟩
      clear hw
      walk_nrm
      u_op rlive_rl hF
      u_c stepG_region_end rlive_rl hF
      u_c stepG_ret' rlive_rl hF
      u_leave1 H.f_uCas rlive_rl hF
      u_c stepG_region_end rlive_rl hF
      u_cond false rlive_rl hF
      u_c stepG_skip rlive_rl hF
      u_c stepG_inBlock rlive_rl hF
      u_c stepG_inLoop rlive_rl hF
      refine Goes.stop (fun w₃ h₃ => ?_)
      replace hF := rlive_rl hF h₃
      exact ⟨_, rfl, by simp, by simp, trivial, hF⟩

set_option maxRecDepth 100000 in
/-- From its entry to the loop's head. -/
theorem wait_start (H : WgLib P L) {R : World → World → Prop} (w : World) :
    Goes P mn R D0 (fun g w => g.status = .running ∧ ∀ w₁, ∃ g', stepG P mn g w₁ = .go g' w₁ #[mk .disable] ∧ (WgLive L.tWg Wg w₁ → ∃ m, Goes P mn (RLive L.tWg Wg) D0 (AnchWN L (fun _ => True) Wg (b₀.at a₀ (.inRegion ops₀ (i₀ :: rest₀) :: k₀)) cs) m g' w₁)) 3
      (G ((base L.wait).at ⟨#[.pointer (some ⟨Wg, 0, none⟩), undef, undef, undef, undef, undef, undef, undef, undef, undef, undef, undef, undef, undef, undef, undef, undef, undef, undef, undef, undef, undef, undef, undef, undef, undef, undef, undef, undef, undef, undef, undef, undef, undef, undef, undef, undef, undef, undef, undef, undef, undef, undef, undef, undef, undef, undef, undef, undef, undef, undef, undef, undef, undef, undef, undef, undef, undef, undef, undef, undef, undef, undef, undef, undef, undef, undef, undef, undef, undef, undef, undef, undef, undef, undef, undef, undef, undef, undef, undef, undef, undef, undef, undef], []⟩ [.code (Go.ConcR.Gen.body_wait L)]) (b₀.at a₀ (.inRegion ops₀ (i₀ :: rest₀) :: k₀) :: cs)) w := by
  lib_facts
  have hF : True := trivial
  have rl : ∀ {w w₁ : World}, True → R w w₁ → True := fun _ _ => trivial
  simp only [body_wait, waitFn, Option.getD_some]
  u_c stepG_seq rl hF
  u_cond true rl hF
  u_reg rl hF
  refine Goes.stop (fun w₁ h₁ => ⟨rfl, fun w₂ => ⟨_, stepG_mark0 .disable (by simp) rfl rfl (by k_ne) rfl H.f_disable (x_disable_n L) (x_disable_b L) (x_disable_x L) (x_disable_f L), fun hF => ⟨3, ?_⟩⟩⟩)
  walk_nrm
  u_c stepG_region_end rlive_rl hF
  u_c stepG_block rlive_rl hF
  u_c stepG_loop rlive_rl hF
  exact Goes.stop (fun w₂ h₂ => ⟨_, rfl, by simp, by simp, trivial, rlive_rl hF h₂⟩)
end
end Cw
end
end Go.Proofs.Ytggfcdhkgldbfaa
