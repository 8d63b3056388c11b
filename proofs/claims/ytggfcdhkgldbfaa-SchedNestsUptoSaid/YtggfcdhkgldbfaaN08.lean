/-
  PARTS of a claim, merged by segs.py: NwU, NwP, NwL.
-/
import Derived.Test.YtggfcdhkgldbfaaN07
import Derived.Test.YtggfcdhkgldbfaaChecked
import Derived.Conc.WgGenLone
import Derived.Conc.TokenWords
import Derived.Conc.CompanyMem
import Derived.Conc.WgWords
import Derived.Conc.WgGenDone
import Derived.Conc.WgGenWait
namespace Go.Proofs.Ytggfcdhkgldbfaa
set_option linter.unusedSimpArgs false
set_option linter.unusedVariables false

/-! ### NwU -/
section
namespace Cw
open Go Go.Conc Go.ConcN Go.RowKit Go.Conc.Lib Go.ConcR.Gen
open Go.ConcR (KK wgBlock WgAt stA smA rd wr mk Payload DC0)

/-- Nobody turns what is old, but for V. -/
abbrev Rz (V : Nat → Prop) (w w₁ : World) : Prop := Ext V w w₁
theorem rz_trans {V : Nat → Prop} (a b c : World) (h : Rz V a b) (k : Rz V b c) : Rz V a c := h.trans k
/-- The holder's next step lists what E says. -/
def Sp (V : Nat → Prop) (P : Program) (mn : Bool) (E : Array Event → Prop) (F : World → World) (Q : Goroutine → World → Prop) (g : Goroutine) (w : World) : Prop :=
  g.status = .running ∧ ∀ w₁, Rz V w w₁ → ∃ g' es, stepG P mn g w₁ = .go g' (F w₁) es ∧ E es ∧ ∃ m, Goes P mn (Rz V) D0 Q m g' (F w₁)

section
variable {V : Nat → Prop} {P : Program} {mn : Bool} {L : WgLink} {Wg : Nat} {b₀ : Frame} {a₀ : Act} {ops₀ : Array Oper} {i₀ : Nat} {rest₀ : List Nat} {k₀ : List Item} {cs : List Frame} {K : World → Prop} {st sm : Int}
theorem add_rl (hnW : ¬ V Wg) (hKr : ∀ w w₁, Rz V w w₁ → K w → K w₁) {w w₁ : World} (h : WgAt L.tWg Wg w st sm ∧ K w) (r : Rz V w w₁) : WgAt L.tWg Wg w₁ st sm ∧ K w₁ := by
  refine ⟨?_, hKr _ _ r h.2⟩
  have h1 := h.1
  unfold WgAt at h1 ⊢
  rw [r.same Wg (Array.getElem?_eq_some_iff.1 h1).1 hnW]
  exact h1

/-- Behind the Add. -/
def BackK (b₀ : Frame) (a₀ : Act) (ops₀ : Array Oper) (i₀ : Nat) (rest₀ : List Nat) (k₀ : List Item) (cs : List Frame) (ty : TypeId) (Wg : Nat) (S : Int) (K : World → Prop) (g : Goroutine) (w : World) : Prop :=
  g = G (b₀.at (a₀.put ((ops₀[i₀]?).bind (·.dst)) (.tuple #[])) (.inRegion ops₀ rest₀ :: k₀)) cs ∧ WgAt ty Wg w S 0 ∧ K w
/-- What the atomic add lists. -/
def AddEs (Wg : Nat) (es : Array Event) : Prop := es = #[⟨.cell (stA Wg), false, true⟩, ⟨.cell (stA Wg), true, true⟩]

set_option maxRecDepth 100000 in
set_option maxHeartbeats 8000000 in
theorem add_walk (H : WgLib P L) (hnW : ¬ V Wg) (hKr : ∀ w w₁, Rz V w w₁ → K w → K w₁) (hKs : ∀ w x, K w → K (w.setCell (stA Wg) x)) (v : Nat) (hv : v < 2147483646) (w : World) (hF : WgAt L.tWg Wg w ((v : Int) * KK) 0 ∧ K w) :
    Goes P mn (Rz V) D0 (Sp V P mn (· = #[mk .disable]) id (Sp V P mn (AddEs Wg) (fun w => w.setCell (stA Wg) (.int .u64 (((v : Int) + 1) * KK))) fun g w =>
      (v = 0 → Sp V P mn (· = #[mk (.read ⟨Wg, 1, none⟩)]) id (Sp V P mn (· = #[mk .enable]) id (BackK b₀ a₀ ops₀ i₀ rest₀ k₀ cs L.tWg Wg (((v : Int) + 1) * KK) K)) g w) ∧
      (v ≠ 0 → Sp V P mn (· = #[mk .enable]) id (BackK b₀ a₀ ops₀ i₀ rest₀ k₀ cs L.tWg Wg (((v : Int) + 1) * KK) K) g w))) 12
      (G ((base L.add).at ⟨#[.pointer (some ⟨Wg, 0, none⟩), .int .i64 1, undef, undef, undef, undef, undef, undef, undef, undef, undef, undef, undef, undef, undef, undef, undef, undef, undef, undef, undef, undef, undef, undef, undef, undef, undef, undef, undef, undef, undef, undef, undef, undef, undef, undef, undef, undef, undef, undef, undef, undef, undef, undef, undef, undef, undef, undef, undef, undef, undef, undef, undef, undef, undef, undef, undef, undef, undef, undef, undef, undef, undef, undef, undef, undef, undef, undef, undef, undef, undef, undef, undef, undef, undef, undef, undef, undef, undef, undef, undef, undef, undef, undef, undef, undef, undef, undef, undef, undef, undef, undef, undef, undef, undef, undef, undef, undef, undef, undef, undef, undef, undef, undef, undef, undef, undef, undef, undef, undef, undef, undef, undef, undef, undef, undef, undef], []⟩ [.code (body_add L)]) (b₀.at a₀ (.inRegion ops₀ (i₀ :: rest₀) :: k₀) :: cs)) w := by
  lib_facts
  simp only [body_add, addFn, Option.getD_some]
  u_c stepG_seq (add_rl hnW hKr) hF
  u_cond true (add_rl hnW hKr) hF
  u_c stepG_seq (add_rl hnW hKr) hF
  u_c stepG_seq (add_rl hnW hKr) hF
  u_reg (add_rl hnW hKr) hF
  u_op (add_rl hnW hKr) hF
  u_op (add_rl hnW hKr) hF
  u_c stepG_region_end (add_rl hnW hKr) hF
  u_cond false (add_rl hnW hKr) hF
  u_c stepG_skip (add_rl hnW hKr) hF
  u_c stepG_seq (add_rl hnW hKr) hF
  u_reg (add_rl hnW hKr) hF
  refine Goes.stop (fun w₁ h₁ => ?_)
  replace hF := add_rl hnW hKr hF h₁
  clear h₁
  refine ⟨rfl, fun w₁ h₁ => ?_⟩
  replace hF := add_rl hnW hKr hF h₁
  clear h₁
  refine ⟨_, _, stepG_mark0 .disable (by simp) rfl rfl (by k_ne) rfl H.f_disable (x_disable_n L) (x_disable_b L) (x_disable_x L) (x_disable_f L), rfl, 128, ?_⟩
  walk_nrm
  u_c stepG_region_end (add_rl hnW hKr) hF
  u_reg (add_rl hnW hKr) hF
  u_defer (add_rl hnW hKr) hF
  u_c stepG_region_end (add_rl hnW hKr) hF
  u_c stepG_seq (add_rl hnW hKr) hF
  u_reg (add_rl hnW hKr) hF
  u_op (add_rl hnW hKr) hF
  u_c stepG_region_end (add_rl hnW hKr) hF
  u_c stepG_seq (add_rl hnW hKr) hF
  u_c stepG_seq (add_rl hnW hKr) hF
  u_reg (add_rl hnW hKr) hF
  u_bub (add_rl hnW hKr) hF
  u_c stepG_region_end (add_rl hnW hKr) hF
  u_cond false (add_rl hnW hKr) hF
  u_c stepG_skip (add_rl hnW hKr) hF
  u_c stepG_seq (add_rl hnW hKr) hF
  u_reg (add_rl hnW hKr) hF
  u_op (add_rl hnW hKr) hF
  u_op (add_rl hnW hKr) hF
  u_op (add_rl hnW hKr) hF
  u_op (add_rl hnW hKr) hF
  u_op (add_rl hnW hKr) hF
  u_op (add_rl hnW hKr) hF
  u_call H.f_uAdd (nm_uAdd L) uAddFn (add_rl hnW hKr) hF
  u_c stepG_seq (add_rl hnW hKr) hF
  u_reg (add_rl hnW hKr) hF
  u_op (add_rl hnW hKr) hF
  u_c stepG_region_end (add_rl hnW hKr) hF
  u_c stepG_seq (add_rl hnW hKr) hF
  u_reg (add_rl hnW hKr) hF
  u_op (add_rl hnW hKr) hF
  u_op (add_rl hnW hKr) hF
  u_op (add_rl hnW hKr) hF
  u_op (add_rl hnW hKr) hF
  refine Goes.stop (fun w₂ h₂ => ?_)
  replace hF := add_rl hnW hKr hF h₂
  clear h₂
  refine ⟨rfl, fun w₂ h₂ => ?_⟩
  replace hF := add_rl hnW hKr hF h₂
  clear h₂
  obtain ⟨S, hS⟩ : ∃ S : Int, ((v : Int) + 1) * KK = S := ⟨_, rfl⟩
  have w1 : IntKind.u64.wrap ((v : Int) * KK + 4294967296) = S := by rw [IntKind.wrap_u64, ← hS]; simp only [KK]; omega
  refine ⟨_, _, (stepG_add_atomic rfl rfl (by k_ne) rfl H.f_addU64 (x_addU64_n L) (x_addU64_b L) (x_addU64_x L) .u64 (x_addU64_f L) rfl rfl hF.1.cellSt (hF.1.thaw 0)).trans (by rw [w1, hS]), rfl, 128, ?_⟩
  rw [hS]
  replace hF : WgAt L.tWg Wg (w₂.setCell (stA Wg) (.int .u64 S)) S 0 ∧ K (w₂.setCell (stA Wg) (.int .u64 S)) := ⟨hF.1.setSt S, hKs _ _ hF.2⟩
  clear w1
  rcases Nat.eq_zero_or_pos v with rfl | hvp
  · obtain rfl : (4294967296 : Int) = S := by rw [← hS]; simp [KK]
    clear hS
    walk_nrm
    u_op (add_rl hnW hKr) hF
    u_c stepG_region_end (add_rl hnW hKr) hF
    u_c stepG_ret' (add_rl hnW hKr) hF
    u_leave1 H.f_uAdd (add_rl hnW hKr) hF
    u_op (add_rl hnW hKr) hF
    u_c stepG_region_end (add_rl hnW hKr) hF
    u_c stepG_seq (add_rl hnW hKr) hF
    u_c stepG_seq (add_rl hnW hKr) hF
    u_reg (add_rl hnW hKr) hF
    u_op (add_rl hnW hKr) hF
    u_op (add_rl hnW hKr) hF
    u_op (add_rl hnW hKr) hF
    u_op (add_rl hnW hKr) hF
    u_skip (add_rl hnW hKr) hF
    u_skip (add_rl hnW hKr) hF
    u_op (add_rl hnW hKr) hF
    u_c stepG_region_end (add_rl hnW hKr) hF
    u_cond false (add_rl hnW hKr) hF
    u_c stepG_skip (add_rl hnW hKr) hF
    u_c stepG_seq (add_rl hnW hKr) hF
    u_reg (add_rl hnW hKr) hF
    u_op (add_rl hnW hKr) hF
    u_op (add_rl hnW hKr) hF
    u_op (add_rl hnW hKr) hF
    u_op (add_rl hnW hKr) hF
    u_c stepG_region_end (add_rl hnW hKr) hF
    u_c stepG_seq (add_rl hnW hKr) hF
    u_reg (add_rl hnW hKr) hF
    u_op (add_rl hnW hKr) hF
    u_op (add_rl hnW hKr) hF
    u_op (add_rl hnW hKr) hF
    u_op (add_rl hnW hKr) hF
    u_c stepG_region_end (add_rl hnW hKr) hF
    u_c stepG_seq (add_rl hnW hKr) hF
    u_c stepG_seq (add_rl hnW hKr) hF
    u_reg (add_rl hnW hKr) hF
    u_op (add_rl hnW hKr) hF
    u_op (add_rl hnW hKr) hF
    u_op (add_rl hnW hKr) hF
    u_op (add_rl hnW hKr) hF
    u_op (add_rl hnW hKr) hF
    u_op (add_rl hnW hKr) hF
    u_op (add_rl hnW hKr) hF
    u_op (add_rl hnW hKr) hF
    u_op (add_rl hnW hKr) hF
    u_op (add_rl hnW hKr) hF
    u_c stepG_region_end (add_rl hnW hKr) hF
    u_cond true (add_rl hnW hKr) hF
    u_reg (add_rl hnW hKr) hF
    u_op (add_rl hnW hKr) hF
    u_op (add_rl hnW hKr) hF
    u_op (add_rl hnW hKr) hF
    u_conv H.underlying_tPU32 H.room_tU32 (show World.cell? _ ⟨Wg, 1, none⟩ = some _ from hF.1.cellSm) (add_rl hnW hKr) hF
    refine Goes.stop (fun w₃ h₃ => ?_)
    replace hF := add_rl hnW hKr hF h₃
    clear h₃
    refine ⟨fun _ => ⟨rfl, fun w₃ h₃ => ?_⟩, fun h => absurd rfl h⟩
    replace hF := add_rl hnW hKr hF h₃
    clear h₃
    refine ⟨_, _, stepG_markAt .read (by simp) rfl rfl (by k_ne) rfl H.f_raceRead (x_raceRead_n L) (x_raceRead_b L) (x_raceRead_x L) (x_raceRead_f L) (ad := ⟨Wg, 1, none⟩) (by simp [Act.eval]), rfl, 128, ?_⟩
    walk_nrm
    u_c stepG_region_end (add_rl hnW hKr) hF
    u_c stepG_seq (add_rl hnW hKr) hF
    u_c stepG_seq (add_rl hnW hKr) hF
    u_reg (add_rl hnW hKr) hF
    u_op (add_rl hnW hKr) hF
    u_op (add_rl hnW hKr) hF
    u_c stepG_region_end (add_rl hnW hKr) hF
    u_cond false (add_rl hnW hKr) hF
    u_c stepG_skip (add_rl hnW hKr) hF
    u_c stepG_seq (add_rl hnW hKr) hF
    u_c stepG_seq (add_rl hnW hKr) hF
    u_reg (add_rl hnW hKr) hF
    u_op (add_rl hnW hKr) hF
    u_op (add_rl hnW hKr) hF
    u_op (add_rl hnW hKr) hF
    u_skip (add_rl hnW hKr) hF
    u_skip (add_rl hnW hKr) hF
    u_op (add_rl hnW hKr) hF
    u_op (add_rl hnW hKr) hF
    u_skip (add_rl hnW hKr) hF
    u_skip (add_rl hnW hKr) hF
    u_skip (add_rl hnW hKr) hF
    u_skip (add_rl hnW hKr) hF
    u_op (add_rl hnW hKr) hF
    u_c stepG_region_end (add_rl hnW hKr) hF
    u_cond false (add_rl hnW hKr) hF
    u_c stepG_skip (add_rl hnW hKr) hF
    u_c stepG_seq (add_rl hnW hKr) hF
    u_c stepG_seq (add_rl hnW hKr) hF
    u_reg (add_rl hnW hKr) hF
    u_op (add_rl hnW hKr) hF
    u_op (add_rl hnW hKr) hF
    u_op (add_rl hnW hKr) hF
    u_skip (add_rl hnW hKr) hF
    u_skip (add_rl hnW hKr) hF
    u_op (add_rl hnW hKr) hF
    u_c stepG_region_end (add_rl hnW hKr) hF
    u_cond true (add_rl hnW hKr) hF
    u_c stepG_ret' (add_rl hnW hKr) hF
    refine Goes.stop (fun w₄ h₄ => ?_)
    replace hF := add_rl hnW hKr hF h₄
    clear h₄
    refine ⟨rfl, fun w₄ h₄ => ?_⟩
    replace hF := add_rl hnW hKr hF h₄
    clear h₄
    refine ⟨_, _, stepG_unwind_entry (v := .tuple #[]) (evs := #[mk .enable]) rfl H.f_enable (x_enable_n L) (x_enable_b L) (x_enable_x L) (x_enable_f L) (by simp [Extern.Race.none_]) (by simp [mk]) (by simp [mk]), rfl, 1, ?_⟩
    u_leave0 H.f_add (add_rl hnW hKr) hF
    exact Goes.stop fun _ h => ⟨rfl, add_rl hnW hKr hF h⟩
  · have a1 : S / 4294967296 = (v : Int) + 1 := by rw [← hS]; simp only [KK]; omega
    have b1 : bits .and .u64 S 2147483648 = 0 := by rw [← hS]; have := st_flag (v + 1) 0 (by omega) (by omega); simpa [KK] using this
    have b2 : bits .and .u64 S 2147483647 = 0 := by rw [← hS]; have := st_waiters (v + 1) 0 (by omega) (by omega); simpa [KK] using this
    have c1 : IntKind.i32.wrap ((v : Int) + 1) = (v : Int) + 1 := by rw [IntKind.wrap_i32]; omega
    have q1 : ((v : Int) + 1 == 1) = false := by simp; omega
    have q2 : decide ((v : Int) + 1 = 1) = false := decide_eq_false (by omega)
    have q3 : decide ((v : Int) + 1 < 0) = false := decide_eq_false (by omega)
    have q4 : decide (0 < (v : Int) + 1) = true := decide_eq_true (by omega)
    walk_nrm
    u_op (add_rl hnW hKr) hF
    u_c stepG_region_end (add_rl hnW hKr) hF
    u_c stepG_ret' (add_rl hnW hKr) hF
    u_leave1 H.f_uAdd (add_rl hnW hKr) hF
    u_op (add_rl hnW hKr) hF
    u_c stepG_region_end (add_rl hnW hKr) hF
    u_c stepG_seq (add_rl hnW hKr) hF
    u_c stepG_seq (add_rl hnW hKr) hF
    u_reg (add_rl hnW hKr) hF
    u_op (add_rl hnW hKr) hF
    u_op (add_rl hnW hKr) hF
    u_op (add_rl hnW hKr) hF
    u_op (add_rl hnW hKr) hF
    u_skip (add_rl hnW hKr) hF
    u_skip (add_rl hnW hKr) hF
    u_op (add_rl hnW hKr) hF
    u_c stepG_region_end (add_rl hnW hKr) hF
    u_cond false (add_rl hnW hKr) hF
    u_c stepG_skip (add_rl hnW hKr) hF
    u_c stepG_seq (add_rl hnW hKr) hF
    u_reg (add_rl hnW hKr) hF
    u_op (add_rl hnW hKr) hF
    u_op (add_rl hnW hKr) hF
    u_op (add_rl hnW hKr) hF
    u_op (add_rl hnW hKr) hF
    u_c stepG_region_end (add_rl hnW hKr) hF
    u_c stepG_seq (add_rl hnW hKr) hF
    u_reg (add_rl hnW hKr) hF
    u_op (add_rl hnW hKr) hF
    u_op (add_rl hnW hKr) hF
    u_op (add_rl hnW hKr) hF
    u_op (add_rl hnW hKr) hF
    u_c stepG_region_end (add_rl hnW hKr) hF
    u_c stepG_seq (add_rl hnW hKr) hF
    u_c stepG_seq (add_rl hnW hKr) hF
    u_reg (add_rl hnW hKr) hF
    u_op (add_rl hnW hKr) hF
    u_op (add_rl hnW hKr) hF
    u_op (add_rl hnW hKr) hF
    u_op (add_rl hnW hKr) hF
    u_op (add_rl hnW hKr) hF
    u_op (add_rl hnW hKr) hF
    u_op (add_rl hnW hKr) hF
    u_op (add_rl hnW hKr) hF
    u_op (add_rl hnW hKr) hF
    u_op (add_rl hnW hKr) hF
    u_c stepG_region_end (add_rl hnW hKr) hF
    u_cond false (add_rl hnW hKr) hF
    u_c stepG_skip (add_rl hnW hKr) hF
    u_c stepG_seq (add_rl hnW hKr) hF
    u_c stepG_seq (add_rl hnW hKr) hF
    u_reg (add_rl hnW hKr) hF
    u_op (add_rl hnW hKr) hF
    u_op (add_rl hnW hKr) hF
    u_c stepG_region_end (add_rl hnW hKr) hF
    u_cond false (add_rl hnW hKr) hF
    u_c stepG_skip (add_rl hnW hKr) hF
    u_c stepG_seq (add_rl hnW hKr) hF
    u_c stepG_seq (add_rl hnW hKr) hF
    u_reg (add_rl hnW hKr) hF
    u_op (add_rl hnW hKr) hF
    u_op (add_rl hnW hKr) hF
    u_op (add_rl hnW hKr) hF
    u_skip (add_rl hnW hKr) hF
    u_skip (add_rl hnW hKr) hF
    u_op (add_rl hnW hKr) hF
    u_op (add_rl hnW hKr) hF
    u_skip (add_rl hnW hKr) hF
    u_skip (add_rl hnW hKr) hF
    u_skip (add_rl hnW hKr) hF
    u_skip (add_rl hnW hKr) hF
    u_op (add_rl hnW hKr) hF
    u_c stepG_region_end (add_rl hnW hKr) hF
    u_cond false (add_rl hnW hKr) hF
    u_c stepG_skip (add_rl hnW hKr) hF
    u_c stepG_seq (add_rl hnW hKr) hF
    u_c stepG_seq (add_rl hnW hKr) hF
    u_reg (add_rl hnW hKr) hF
    u_op (add_rl hnW hKr) hF
    u_op (add_rl hnW hKr) hF
    u_op (add_rl hnW hKr) hF
    u_skip (add_rl hnW hKr) hF
    u_skip (add_rl hnW hKr) hF
    u_op (add_rl hnW hKr) hF
    u_c stepG_region_end (add_rl hnW hKr) hF
    u_cond true (add_rl hnW hKr) hF
    u_c stepG_ret' (add_rl hnW hKr) hF
    refine Goes.stop (fun w₃ h₃ => ?_)
    replace hF := add_rl hnW hKr hF h₃
    clear h₃
    refine ⟨fun h => absurd h (by omega), fun _ => ⟨rfl, fun w₃ h₃ => ?_⟩⟩
    replace hF := add_rl hnW hKr hF h₃
    clear h₃
    refine ⟨_, _, stepG_unwind_entry (v := .tuple #[]) (evs := #[mk .enable]) rfl H.f_enable (x_enable_n L) (x_enable_b L) (x_enable_x L) (x_enable_f L) (by simp [Extern.Race.none_]) (by simp [mk]) (by simp [mk]), rfl, 1, ?_⟩
    u_leave0 H.f_add (add_rl hnW hKr) hF
    exact Goes.stop fun _ h => ⟨rfl, add_rl hnW hKr hF h⟩
end
end Cw
end

/-! ### NwP -/
section
namespace Cw
open Go Go.Conc
open Go.ConcN (WgLive)
open Go.ConcR (WgAt)

/-! ### parts of a code -/
def lf : Code → Code
  | .seq a _ => a
  | _ => .skip
def rt : Code → Code
  | .seq _ b => b
  | _ => .skip
def opsOf : Code → Array Oper
  | .region _ ops _ => ops
  | _ => #[]
def inner : Code → Code
  | .block _ c => c
  | .loop c => c
  | _ => .skip

/-! ### a bystander's way -/
section
variable {P : Program} {Bx : Array Value → TypeId → Prop} {main : Bool} {c : Nat} {z : Value} {home : Hm} {n : Nat} {L : Addr → Value → Prop} {g : Goroutine}
theorem Way.goes (hs : g.status = .running) (h : ∀ w, Kl L w → (stepG P main g w).goes fun g' w' es =>
      (w' = w ∧ (∀ e ∈ es, EvR L e) ∧ Way P Bx main c z home n L g') ∨ (∃ v ty, w' = w.alloc (.cells #[v] ty) ∧ es = #[] ∧ (Bx #[v] ty ∧ NoInt #[v]) ∧ Way P Bx main c z home n (plus L w.heap.size v) g')) : Way P Bx main c z home (n + 1) L g := by
  refine .inr ⟨hs, fun w hw => ?_⟩
  have h1 := h w hw
  cases e : stepG P main g w with
  | go g' w' es =>
    rw [e, goes_go] at h1
    rcases h1 with ⟨rfl, h2, h3⟩ | ⟨v, ty, rfl, rfl, h2, h3⟩
    · exact .inl ⟨g', es, rfl, h2, h3⟩
    · exact .inr ⟨g', v, ty, rfl, h2, h3⟩
  | _ => rw [e] at h1; exact h1.elim
theorem Way.stop (h : AtS P main c z home L g g) : Way P Bx main c z home n L g := by
  cases n with
  | zero => exact ⟨g, h⟩
  | succ n => exact .inl ⟨g, h⟩
theorem atS_of {b : Frame} {a : Act} {k : List Item} {cs : List Frame} {ops : Array Oper} {i : Nat} {rest : List Nat} {o : Oper} (ho : ops[i]? = some o) (hw : Region.wanted o (yielded ops a.tmps) = true) (hk : b.kind ≠ .early)
    (hr : ∀ w, (execOp a.eval o).run P w = .ok (.comm #[rcase c z] true (.recv false)) w) (he : ∀ w, (execOp a.eval o).events P w #[] = #[]) (hh : home (G (b.at a (.inRegion ops (i :: rest) :: k)) cs) L) :
    AtS P main c z home L (G (b.at a (.inRegion ops (i :: rest) :: k)) cs) (G (b.at a (.inRegion ops (i :: rest) :: k)) cs) :=
  ⟨rfl, hh, #[], fun e he => by simp at he, fun w _ => by rw [stepG_comm ho hw hk (hr w), listed_nil (he w)]⟩
end

/-! ### the holder's guarantee -/
def HDq (X : Cx) (w w' : World) (es : Array Event) : Prop := HD X w w' es ∧ ∀ e ∈ es, Quiet e
section
variable {X : Cx} {w : World}
theorem hdq_idle (X : Cx) (w : World) : HDq X w w #[] := ⟨⟨Env.refl X w, fun _ _ => rfl, fun _ _ => rfl, fun e he => by simp at he⟩, fun e he => by simp at he⟩
theorem hdq_draw (X : Cx) (w : World) : HDq X w { w with drawn := w.drawn + 1 } #[] := ⟨⟨Env.at X w _, fun _ _ => rfl, fun _ _ => rfl, fun e he => by simp at he⟩, fun e he => by simp at he⟩
theorem hdq_terms (X : Cx) (V : Nat → Prop) : Terms (Ext V) (HDq X) := ⟨fun _ _ _ h k => h.trans k, hdq_idle X⟩
/-- Plain reads of places that no group has. -/
theorem hdq_read {es : Array Event} (h : ∀ e ∈ es, ∃ a : Addr, e = ⟨.cell a, false, false⟩ ∧ a.block < w.heap.size ∧ ¬ X.Sh (.cell a)) : HDq X w w es := by
  refine ⟨⟨Env.refl X w, fun _ _ => rfl, fun _ _ => rfl, fun e he => ?_⟩, fun e he => ?_⟩
  · obtain ⟨a, rfl, hl, hs⟩ := h e he
    refine ⟨fun x hx => ?_, fun a' => by simp, hl⟩
    simp only [MemAct.ofEvent, MemAct.touch?, Option.some.injEq] at hx
    subst hx
    exact ⟨fun hS => absurd hS hs, fun hw => by cases hw⟩
  · obtain ⟨a, rfl, _⟩ := h e he
    exact ⟨by simp, by simp⟩
/-- A block is made; nothing of the heap is touched. -/
theorem hdq_alloc {o : Obj} {es : Array Event} (hst : ∀ a, X.St a → a.block < w.heap.size) (hch : ∀ c, X.Ch c → c < w.heap.size) (hwg : ∀ b, X.on b → b < w.heap.size) (hes : ∀ e ∈ es, e = ⟨.mark .noRoom, false, true⟩) : HDq X w (w.alloc o) es := by
  refine ⟨⟨⟨by simp, fun a ha => cell_of_block (heap_alloc_old _ _ _ (hst a ha)), fun b ⟨v, ty, hv, _⟩ => heap_alloc_old _ _ _ (Array.getElem?_eq_some_iff.1 hv).1, fun _ _ ⟨st, sm, hw⟩ => ⟨st, sm, ?_⟩, rfl, rfl⟩, fun c hc => heap_alloc_old _ _ _ (hch c hc), fun b o => heap_alloc_old _ _ _ (hwg b o), fun e he => ?_⟩, fun e he => ?_⟩
  · unfold WgAt at hw ⊢
    rw [heap_alloc_old _ _ _ (Array.getElem?_eq_some_iff.1 hw).1]
    exact hw
  · obtain rfl := hes e he
    exact ⟨fun x hx => by simp [MemAct.ofEvent, MemAct.touch?] at hx, fun a' => by simp, trivial⟩
  · obtain rfl := hes e he
    exact ⟨by simp, by simp⟩
/-- A cell is written that nobody leans on. -/
theorem hdq_write {a : Addr} {v : Value} {es : Array Event} (hst : ¬ X.St a) (hbx : ¬ BoxAt X w a.block) (hch : ∀ c, X.Ch c → c ≠ a.block) (hwg : ∀ b, X.on b → b ≠ a.block) (hsh : ¬ X.Sh (.cell a)) (hlt : a.block < w.heap.size)
    (hoth : ∀ a', X.St a' → (w.setCell a v).cell? a' = w.cell? a') (hes : ∀ e ∈ es, e = ⟨.cell a, true, false⟩) : HDq X w (w.setCell a v) es := by
  refine ⟨⟨⟨by rw [size_setCell']; exact Nat.le_refl _, hoth, fun b hb => heap_setCell_ne w a v fun e => hbx (e ▸ hb), fun b o ⟨st, sm, hw⟩ => ⟨st, sm, ?_⟩, rfl, rfl⟩, fun c hc => heap_setCell_ne w a v (hch c hc), fun b o => heap_setCell_ne w a v (hwg b o), fun e he => ?_⟩, fun e he => ?_⟩
  · unfold WgAt at hw ⊢
    rw [heap_setCell_ne w a v (hwg b o)]
    exact hw
  · obtain rfl := hes e he
    refine ⟨fun x hx => ?_, fun a' => by simp, by rw [size_setCell']; exact hlt⟩
    simp only [MemAct.ofEvent, MemAct.touch?, Option.some.injEq] at hx
    subst hx
    refine ⟨fun hS => absurd hS hsh, fun _ a' e => ?_⟩
    obtain rfl := Loc.cell.inj e
    rintro (h | ⟨_, _, h⟩)
    · exact hst h
    · exact hbx h
  · obtain rfl := hes e he
    exact ⟨by simp, by simp⟩
end
end Cw
end

/-! ### NwL -/
section
abbrev link : Go.Conc.Lib.WgLink := { add := 18, done := 20, wait := 24, relMerge := 27, disable := 28, enable := 29, inBubble := 30, associate := 31, fatal := 32, uOr := 33, uAdd := 34, raceRead := 35, uLoad := 36, uStore := 37, disassociate := 38, semrelease := 39, acquire := 42, isAssociated := 43, uCas := 44, raceWrite := 45, semacquire := 46, orU64 := 47, addU64 := 48, loadU64 := 49, storeU64 := 50, casU64 := 51, tWgP := 77, tUP := 79, tAssoc := 80, tWg := 66, tAU := 63, tU64 := 61, tUint := 83, tU32 := 64, tPU32 := 84, tPAU := 93, tPU64 := 95, tNoCopy := 58, tANoCopy := 59, tAlign64 := 60 }
theorem wgLib : Go.Conc.Lib.WgLib Try.prog link :=
  ⟨Try.func18, Try.func20, Try.func24, Try.func27, Try.func28, Try.func29, Try.func30, Try.func31, Try.func32, Try.func33, Try.func34, Try.func35, Try.func36, Try.func37, Try.func38, Try.func39, Try.func42, Try.func43, Try.func44, Try.func45, Try.func46, Try.func47, Try.func48, Try.func49, Try.func50, Try.func51, Try.underlying77, Try.runUnderlying77, Try.sizeOf77, Try.isAgg77, Try.zeroValue77, Try.underlying79, Try.runUnderlying79, Try.sizeOf79, Try.isAgg79, Try.zeroValue79, Try.underlying80, Try.runUnderlying80, Try.sizeOf80, Try.isAgg80, Try.zeroValue80, Try.underlying66, Try.runUnderlying66, Try.sizeOf66, Try.isAgg66, Try.zeroValue66, Try.underlying63, Try.runUnderlying63, Try.sizeOf63, Try.isAgg63, Try.zeroValue63, Try.underlying61, Try.runUnderlying61, Try.sizeOf61, Try.isAgg61, Try.zeroValue61, Try.underlying83, Try.runUnderlying83, Try.sizeOf83, Try.isAgg83, Try.zeroValue83, Try.underlying64, Try.runUnderlying64, Try.sizeOf64, Try.isAgg64, Try.zeroValue64, Try.underlying84, Try.runUnderlying84, Try.sizeOf84, Try.isAgg84, Try.zeroValue84, Try.underlying93, Try.runUnderlying93, Try.sizeOf93, Try.isAgg93, Try.zeroValue93, Try.underlying95, Try.runUnderlying95, Try.sizeOf95, Try.isAgg95, Try.zeroValue95, Try.underlying0, Try.runUnderlying0, Try.sizeOf0, Try.isAgg0, Try.zeroValue0, Try.underlying3, Try.runUnderlying3, Try.sizeOf3, Try.isAgg3, Try.zeroValue3, Try.underlying4, Try.runUnderlying4, Try.sizeOf4, Try.isAgg4, Try.zeroValue4, Try.underlying9, Try.runUnderlying9, Try.sizeOf9, Try.isAgg9, Try.zeroValue9, Try.underlying20, Try.runUnderlying20, Try.sizeOf20, Try.isAgg20, Try.zeroValue20, Try.underlying21, Try.runUnderlying21, Try.sizeOf21, Try.isAgg21, Try.zeroValue21, (by kernel_rfl), (by kernel_rfl)⟩
end
end Go.Proofs.Ytggfcdhkgldbfaa
