/-
  PARTS of a claim, merged by segs.py: NwI2.
-/
import Derived.Test.YtggfcdhkgldbfaaN17
namespace Go.Proofs.Ytggfcdhkgldbfaa
set_option linter.unusedSimpArgs false
set_option linter.unusedVariables false

/-! ### NwI2 -/
section
set_option linter.unusedSimpArgs false
open Go Go.Conc Go.RowKit Go.ConcR.Gen Cw

/-- Every order that a region can be given. -/
def enum (md : Region.Mode) (ops : Array Oper) : Nat → Array Bool → List (List Nat)
  | 0, _ => [[]]
  | f + 1, listed => match Region.ready md ops listed with
    | [] => [[]]
    | x :: xs => (x :: xs).flatMap fun i => (enum md ops f (listed.setIfInBounds i true)).map (i :: ·)
theorem enum_sound (md : Region.Mode) (ops : Array Oper) : ∀ (fuel t : Nat) (listed : Array Bool), Region.linearise.go md ops fuel t listed [] ∈ enum md ops fuel listed
  | 0, t, listed => by simp [Region.linearise.go, enum]
  | fuel + 1, t, listed => by
    simp only [Region.linearise.go]
    change (match (Region.ready md ops listed)[t % (Region.ready md ops listed).length]? with
      | some i => Region.linearise.go md ops fuel (t / (Region.ready md ops listed).length) (listed.setIfInBounds i true) [i]
      | none => [].reverse) ∈ _
    unfold enum
    cases hr : Region.ready md ops listed with
    | nil => simp
    | cons x xs =>
      have hlt : t % (x :: xs).length < (x :: xs).length := Nat.mod_lt _ (by simp)
      rw [List.getElem?_eq_getElem hlt]
      simp only []
      rw [linearise_go_acc, List.reverse_singleton, List.singleton_append]
      exact List.mem_flatMap.2 ⟨_, List.getElem_mem hlt, List.mem_map.2 ⟨_, enum_sound md ops fuel _ _, rfl⟩⟩
theorem mixed : Try.prog.follows .mixedOrders = true := by kernel_rfl
theorem sched_in (ops : Array Oper) (t : Nat) : Region.schedule (Try.prog.follows .mixedOrders) ops t ∈ enum .any ops ops.size (Array.replicate ops.size false) := by
  simp only [Region.schedule, mixed, Bool.true_or, if_true]
  exact enum_sound .any ops _ t _
theorem enum13 : enum .any ops13 6 (Array.replicate 6 false) = [[0, 1, 2, 3, 4, 5], [0, 1, 2, 4, 3, 5], [0, 1, 4, 2, 3, 5], [0, 4, 1, 2, 3, 5], [1, 0, 2, 3, 4, 5], [1, 0, 2, 4, 3, 5], [1, 0, 4, 2, 3, 5], [1, 4, 0, 2, 3, 5], [4, 0, 1, 2, 3, 5], [4, 1, 0, 2, 3, 5]] := by kernel_rfl
/-- Behind the drawn region. -/
def AtLaid (ps wk tk : Value) (n i wg ev bi bt bw : Nat) (cs : List Frame) (g : Goroutine) : Prop :=
  ∃ T : Array Value, T.size = 79 ∧ T[0]? = some ps ∧ T[7]? = some wk ∧ T[6]? = some (pb ev) ∧ T[8]? = some (pb wg) ∧ T[33]? = some tk ∧ T[34]? = some (.int .i64 n) ∧ T[35]? = some (.int .i64 i) ∧ T[9]? = some (pb bi) ∧ T[10]? = some (pb bt) ∧ T[11]? = some (pb bw) ∧
    g = G (fRun T (.code (rt (rt blk1)) :: todo1)) cs
section
variable {X : Cx} {V : Nat → Prop} {Q : World → Prop} {mn : Bool} {N₀ : Nat}
/-- What the region has made. -/
structure Made (N₀ bi bt cr cp bs bw : Nat) (i : Nat) (tv : Value) (w : World) : Prop where
  hbi : w.heap[bi]? = some (.cells #[.int .i64 i] 3 (0, 0))
  hbt : w.heap[bt]? = some (.cells #[tv] 50 (0, 0))
  hcr : w.heap[cr]? = some (.chan 0 #[] false 0 0 false)
  hcp : w.heap[cp]? = some (.chan 0 #[] false 0 0 false)
  hbs : w.heap[bs]? = some (.cells #[.chan (some cr), .chan (some cp), .bool false] 71 (0, 0))
  hbw : w.heap[bw]? = some (.cells #[pb bs] 67 (0, 0))
  ne : cr ≠ cp
  low : N₀ ≤ cr ∧ N₀ ≤ cp ∧ N₀ ≤ bs ∧ N₀ ≤ bw
theorem Made.rl {bi bt cr cp bs bw i : Nat} {tv : Value} {w w' : World} (hv : ∀ b, N₀ ≤ b → ¬ V b) (hbx : N₀ ≤ bi ∧ N₀ ≤ bt) (h : Made N₀ bi bt cr cp bs bw i tv w) (r : Rz V w w') : Made N₀ bi bt cr cp bs bw i tv w' := by
  have e : ∀ {b : Nat} {o : Obj}, N₀ ≤ b → w.heap[b]? = some o → w'.heap[b]? = some o := fun hn hb => (r.same _ (Array.getElem?_eq_some_iff.1 hb).1 (hv _ hn)).trans hb
  exact ⟨e hbx.1 h.hbi, e hbx.2 h.hbt, e h.low.1 h.hcr, e h.low.2.1 h.hcp, e h.low.2.2.1 h.hbs, e h.low.2.2.2 h.hbw, h.ne, h.low⟩
set_option maxRecDepth 100000 in
set_option maxHeartbeats 4000000 in
theorem h_lay (H : Rd0 X V Q N₀) {ps wk tk : Value} {n i wg ev bi bt : Nat} {tv : Value} (hlo : N₀ ≤ bi ∧ N₀ ≤ bt) (cs : List Frame) (g : Goroutine) (w : World)
    (hF : Q w ∧ ∀ x ∈ [(bi, Obj.cells #[.int .i64 i] 3 (0, 0)), (bt, Obj.cells #[tv] 50 (0, 0))], w.heap[x.1]? = some x.2 ∧ ¬ V x.1) (hg : AtBoxed ps wk tk n i wg ev bi bt cs g) :
    Goes Try.prog mn (Rz V) (HDq X) (fun g w => ∃ cr cp bs bw, AtLaid ps wk tk n i wg ev bi bt bw cs g ∧ Q w ∧ Made N₀ bi bt cr cp bs bw i tv w) 30 g w := by
  obtain ⟨T, hT, h0, h7, h6, h8, h33, h34, h35, h9, h10, rfl⟩ := hg
  have e1 : rt blk1 = .seq (.region 13 ops13 true) (rt (rt blk1)) := by
    simp only [ops13, blk1, rnd1, cd7, bodyM, inner, rt, lf, opsOf, Try.f10, Option.getD_some]
  have hv0 : ∀ b, N₀ ≤ b → ¬ V b := fun b hb => (H.fl.ok hb).nv
  have hs6 : ops13.size = 6 := by kernel_rfl
  rw [e1]
  refine Goes.step rfl (fun w hr => ?_)
  replace hF := (q_rl H.rl) hF hr
  clear hr
  rw [stepG_seq]
  simp only [goes_go]
  refine ⟨hdq_idle _ _, ?_⟩
  refine Goes.step rfl (fun w hr => ?_)
  replace hF := (q_rl H.rl) hF hr
  clear hr
  rw [stepG_region_draw]
  simp only [goes_go]
  refine ⟨hdq_draw _ _, ?_⟩
  have hS := sched_in ops13 (w.tape w.drawn (.order (base 10).fn 13))
  rw [hs6, enum13] at hS
  generalize Region.schedule (Try.prog.follows .mixedOrders) ops13 _ = S at hS
  replace hF : Q { w with drawn := w.drawn + 1 } ∧ ∀ x ∈ [(bi, Obj.cells #[.int .i64 i] 3 (0, 0)), (bt, Obj.cells #[tv] 50 (0, 0))], ({ w with drawn := w.drawn + 1 } : World).heap[x.1]? = some x.2 ∧ ¬ V x.1 := ⟨H.dr w _ hF.1, hF.2⟩
  generalize ({ w with drawn := w.drawn + 1 } : World) = w at *
  have key : ∀ (T' : Array Value) (cr cp bs bw : Nat) (w' : World), T'.size = 79 → (∀ j ∈ [0, 7, 6, 8, 33, 34, 35, 9, 10], T'[j]? = T[j]?) → T'[11]? = some (pb bw) → Q w' ∧ Made N₀ bi bt cr cp bs bw i tv w' →
      Goes Try.prog mn (Rz V) (HDq X) (fun g w => ∃ cr cp bs bw, AtLaid ps wk tk n i wg ev bi bt bw cs g ∧ Q w ∧ Made N₀ bi bt cr cp bs bw i tv w) 2 (G (fRun T' (.inRegion ops13 [] :: .code (rt (rt blk1)) :: todo1)) cs) w' := by
    intro T' cr cp bs bw w' hT' hj h11 hF'
    refine Goes.step rfl (fun w hr => ?_)
    have hF2 : Q w ∧ Made N₀ bi bt cr cp bs bw i tv w := ⟨H.rl _ _ hF'.1 hr, hF'.2.rl hv0 hlo hr⟩
    rw [stepG_region_end]
    simp only [goes_go]
    refine ⟨hdq_idle _ _, Goes.stop (fun w hr => ⟨cr, cp, bs, bw, ⟨T', hT', ?_, ?_, ?_, ?_, ?_, ?_, ?_, ?_, ?_, h11, rfl⟩, H.rl _ _ hF2.1 hr, hF2.2.rl hv0 hlo hr⟩)⟩
    · rw [hj 0 (by simp)]; exact h0
    · rw [hj 7 (by simp)]; exact h7
    · rw [hj 6 (by simp)]; exact h6
    · rw [hj 8 (by simp)]; exact h8
    · rw [hj 33 (by simp)]; exact h33
    · rw [hj 34 (by simp)]; exact h34
    · rw [hj 35 (by simp)]; exact h35
    · rw [hj 9 (by simp)]; exact h9
    · rw [hj 10 (by simp)]; exact h10
  replace hS : S = [0, 1, 2, 3, 4, 5] ∨ S = [0, 1, 2, 4, 3, 5] ∨ S = [0, 1, 4, 2, 3, 5] ∨ S = [0, 4, 1, 2, 3, 5] ∨ S = [1, 0, 2, 3, 4, 5] ∨ S = [1, 0, 2, 4, 3, 5] ∨ S = [1, 0, 4, 2, 3, 5] ∨ S = [1, 4, 0, 2, 3, 5] ∨ S = [4, 0, 1, 2, 3, 5] ∨ S = [4, 1, 0, 2, 3, 5] := by simpa only [List.mem_cons, List.not_mem_nil, or_false] using hS
  rcases hS with rfl | rfl | rfl | rfl | rfl | rfl | rfl | rfl | rfl | rfl
  · refine c0 H hT hF (fun T1 cr w1 p1 n1 l1 f1 => ?_)
    have lowcr : N₀ ≤ cr := n1
    have g40 := p1.2.1
    have s1 : T1.size = 79 := p1.1.trans hT
    have j1 : ∀ j ∈ [0, 7, 6, 8, 33, 34, 35, 9, 10], T1[j]? = T[j]? := fun j hj => (p1.2.2 j (by simp at hj; omega))
    refine c1 H s1 f1 (fun T2 cp w2 p2 n2 l2 f2 => ?_)
    have lowcp : N₀ ≤ cp := n2
    have hne : cr ≠ cp := l2 (cr, Obj.chan 0 #[] false 0 0 false) (by simp)
    replace g40 := (p2.2.2 40 (by decide)).trans g40
    have g41 := p2.2.1
    have s2 : T2.size = 79 := p2.1.trans s1
    have j2 : ∀ j ∈ [0, 7, 6, 8, 33, 34, 35, 9, 10], T2[j]? = T[j]? := fun j hj => (p2.2.2 j (by simp at hj; omega)).trans (j1 j hj)
    refine c2 H s2 f2 (cr := cr) (cp := cp) g40 g41 (fun T3 w3 p3 f3 => ?_)
    replace g40 := (p3.2.2 40 (by decide)).trans g40
    replace g41 := (p3.2.2 41 (by decide)).trans g41
    have g42 := p3.2.1
    have s3 : T3.size = 79 := p3.1.trans s2
    have j3 : ∀ j ∈ [0, 7, 6, 8, 33, 34, 35, 9, 10], T3[j]? = T[j]? := fun j hj => (p3.2.2 j (by simp at hj; omega)).trans (j2 j hj)
    refine c3 H s3 f3 (cr := cr) (cp := cp) g42 (fun T4 bs w4 p4 n4 l4 f4 => ?_)
    have lowbs : N₀ ≤ bs := n4
    replace g40 := (p4.2.2 40 (by decide)).trans g40
    replace g41 := (p4.2.2 41 (by decide)).trans g41
    replace g42 := (p4.2.2 42 (by decide)).trans g42
    have g43 := p4.2.1
    have s4 : T4.size = 79 := p4.1.trans s3
    have j4 : ∀ j ∈ [0, 7, 6, 8, 33, 34, 35, 9, 10], T4[j]? = T[j]? := fun j hj => (p4.2.2 j (by simp at hj; omega)).trans (j3 j hj)
    refine c4 H s4 f4 (fun T5 bw w5 p5 n5 l5 f5 => ?_)
    have lowbw : N₀ ≤ bw := n5
    replace g40 := (p5.2.2 40 (by decide)).trans g40
    replace g41 := (p5.2.2 41 (by decide)).trans g41
    replace g42 := (p5.2.2 42 (by decide)).trans g42
    replace g43 := (p5.2.2 43 (by decide)).trans g43
    have g11 := p5.2.1
    have s5 : T5.size = 79 := p5.1.trans s4
    have j5 : ∀ j ∈ [0, 7, 6, 8, 33, 34, 35, 9, 10], T5[j]? = T[j]? := fun j hj => (p5.2.2 j (by simp at hj; omega)).trans (j4 j hj)
    refine c5 H s5 f5 (bw := bw) (bs := bs) lowbw g11 g43 (by simp) (fun w6 q6 b6 f6 => ?_)
    have hbs := (f5.2 (bs, Obj.cells #[.chan (some cr), .chan (some cp), .bool false] 71 (0, 0)) (by simp)).1
    have hbw := (f5.2 (bw, Obj.cells #[.pointer none] 67 (0, 0)) (by simp)).1
    have kbi : w6.heap[bi]? = some (Obj.cells #[.int .i64 i] 3 (0, 0)) := f6 (bi, Obj.cells #[.int .i64 i] 3 (0, 0)) (by simp) (fun e => by have h1 := (f5.2 (bi, Obj.cells #[.int .i64 i] 3 (0, 0)) (by simp)).1; simp only at e h1; rw [e, hbw] at h1; cases h1)
    have kbt : w6.heap[bt]? = some (Obj.cells #[tv] 50 (0, 0)) := f6 (bt, Obj.cells #[tv] 50 (0, 0)) (by simp) (fun e => by have h1 := (f5.2 (bt, Obj.cells #[tv] 50 (0, 0)) (by simp)).1; simp only at e h1; rw [e, hbw] at h1; cases h1)
    have kcr : w6.heap[cr]? = some (Obj.chan 0 #[] false 0 0 false) := f6 (cr, Obj.chan 0 #[] false 0 0 false) (by simp) (fun e => by have h1 := (f5.2 (cr, Obj.chan 0 #[] false 0 0 false) (by simp)).1; simp only at e h1; rw [e, hbw] at h1; cases h1)
    have kcp : w6.heap[cp]? = some (Obj.chan 0 #[] false 0 0 false) := f6 (cp, Obj.chan 0 #[] false 0 0 false) (by simp) (fun e => by have h1 := (f5.2 (cp, Obj.chan 0 #[] false 0 0 false) (by simp)).1; simp only at e h1; rw [e, hbw] at h1; cases h1)
    have kbs : w6.heap[bs]? = some (Obj.cells #[.chan (some cr), .chan (some cp), .bool false] 71 (0, 0)) := f6 (bs, Obj.cells #[.chan (some cr), .chan (some cp), .bool false] 71 (0, 0)) (by simp) (fun e => by have h1 := (f5.2 (bs, Obj.cells #[.chan (some cr), .chan (some cp), .bool false] 71 (0, 0)) (by simp)).1; simp only at e h1; rw [e, hbw] at h1; cases h1)
    exact Goes.mono (key _ cr cp bs bw w6 s5 (fun j hj => j5 j hj) g11 ⟨q6, kbi, kbt, kcr, kcp, kbs, b6, hne, lowcr, lowcp, lowbs, lowbw⟩) (by omega)
  · refine c0 H hT hF (fun T1 cr w1 p1 n1 l1 f1 => ?_)
    have lowcr : N₀ ≤ cr := n1
    have g40 := p1.2.1
    have s1 : T1.size = 79 := p1.1.trans hT
    have j1 : ∀ j ∈ [0, 7, 6, 8, 33, 34, 35, 9, 10], T1[j]? = T[j]? := fun j hj => (p1.2.2 j (by simp at hj; omega))
    refine c1 H s1 f1 (fun T2 cp w2 p2 n2 l2 f2 => ?_)
    have lowcp : N₀ ≤ cp := n2
    have hne : cr ≠ cp := l2 (cr, Obj.chan 0 #[] false 0 0 false) (by simp)
    replace g40 := (p2.2.2 40 (by decide)).trans g40
    have g41 := p2.2.1
    have s2 : T2.size = 79 := p2.1.trans s1
    have j2 : ∀ j ∈ [0, 7, 6, 8, 33, 34, 35, 9, 10], T2[j]? = T[j]? := fun j hj => (p2.2.2 j (by simp at hj; omega)).trans (j1 j hj)
    refine c2 H s2 f2 (cr := cr) (cp := cp) g40 g41 (fun T3 w3 p3 f3 => ?_)
    replace g40 := (p3.2.2 40 (by decide)).trans g40
    replace g41 := (p3.2.2 41 (by decide)).trans g41
    have g42 := p3.2.1
    have s3 : T3.size = 79 := p3.1.trans s2
    have j3 : ∀ j ∈ [0, 7, 6, 8, 33, 34, 35, 9, 10], T3[j]? = T[j]? := fun j hj => (p3.2.2 j (by simp at hj; omega)).trans (j2 j hj)
    refine c4 H s3 f3 (fun T4 bw w4 p4 n4 l4 f4 => ?_)
    have lowbw : N₀ ≤ bw := n4
    replace g40 := (p4.2.2 40 (by decide)).trans g40
    replace g41 := (p4.2.2 41 (by decide)).trans g41
    replace g42 := (p4.2.2 42 (by decide)).trans g42
    have g11 := p4.2.1
    have s4 : T4.size = 79 := p4.1.trans s3
    have j4 : ∀ j ∈ [0, 7, 6, 8, 33, 34, 35, 9, 10], T4[j]? = T[j]? := fun j hj => (p4.2.2 j (by simp at hj; omega)).trans (j3 j hj)
    refine c3 H s4 f4 (cr := cr) (cp := cp) g42 (fun T5 bs w5 p5 n5 l5 f5 => ?_)
    have lowbs : N₀ ≤ bs := n5
    replace g40 := (p5.2.2 40 (by decide)).trans g40
    replace g41 := (p5.2.2 41 (by decide)).trans g41
    replace g42 := (p5.2.2 42 (by decide)).trans g42
    replace g11 := (p5.2.2 11 (by decide)).trans g11
    have g43 := p5.2.1
    have s5 : T5.size = 79 := p5.1.trans s4
    have j5 : ∀ j ∈ [0, 7, 6, 8, 33, 34, 35, 9, 10], T5[j]? = T[j]? := fun j hj => (p5.2.2 j (by simp at hj; omega)).trans (j4 j hj)
    refine c5 H s5 f5 (bw := bw) (bs := bs) lowbw g11 g43 (by simp) (fun w6 q6 b6 f6 => ?_)
    have hbs := (f5.2 (bs, Obj.cells #[.chan (some cr), .chan (some cp), .bool false] 71 (0, 0)) (by simp)).1
    have hbw := (f5.2 (bw, Obj.cells #[.pointer none] 67 (0, 0)) (by simp)).1
    have kbi : w6.heap[bi]? = some (Obj.cells #[.int .i64 i] 3 (0, 0)) := f6 (bi, Obj.cells #[.int .i64 i] 3 (0, 0)) (by simp) (fun e => by have h1 := (f5.2 (bi, Obj.cells #[.int .i64 i] 3 (0, 0)) (by simp)).1; simp only at e h1; rw [e, hbw] at h1; cases h1)
    have kbt : w6.heap[bt]? = some (Obj.cells #[tv] 50 (0, 0)) := f6 (bt, Obj.cells #[tv] 50 (0, 0)) (by simp) (fun e => by have h1 := (f5.2 (bt, Obj.cells #[tv] 50 (0, 0)) (by simp)).1; simp only at e h1; rw [e, hbw] at h1; cases h1)
    have kcr : w6.heap[cr]? = some (Obj.chan 0 #[] false 0 0 false) := f6 (cr, Obj.chan 0 #[] false 0 0 false) (by simp) (fun e => by have h1 := (f5.2 (cr, Obj.chan 0 #[] false 0 0 false) (by simp)).1; simp only at e h1; rw [e, hbw] at h1; cases h1)
    have kcp : w6.heap[cp]? = some (Obj.chan 0 #[] false 0 0 false) := f6 (cp, Obj.chan 0 #[] false 0 0 false) (by simp) (fun e => by have h1 := (f5.2 (cp, Obj.chan 0 #[] false 0 0 false) (by simp)).1; simp only at e h1; rw [e, hbw] at h1; cases h1)
    have kbs : w6.heap[bs]? = some (Obj.cells #[.chan (some cr), .chan (some cp), .bool false] 71 (0, 0)) := f6 (bs, Obj.cells #[.chan (some cr), .chan (some cp), .bool false] 71 (0, 0)) (by simp) (fun e => by have h1 := (f5.2 (bs, Obj.cells #[.chan (some cr), .chan (some cp), .bool false] 71 (0, 0)) (by simp)).1; simp only at e h1; rw [e, hbw] at h1; cases h1)
    exact Goes.mono (key _ cr cp bs bw w6 s5 (fun j hj => j5 j hj) g11 ⟨q6, kbi, kbt, kcr, kcp, kbs, b6, hne, lowcr, lowcp, lowbs, lowbw⟩) (by omega)
  · refine c0 H hT hF (fun T1 cr w1 p1 n1 l1 f1 => ?_)
    have lowcr : N₀ ≤ cr := n1
    have g40 := p1.2.1
    have s1 : T1.size = 79 := p1.1.trans hT
    have j1 : ∀ j ∈ [0, 7, 6, 8, 33, 34, 35, 9, 10], T1[j]? = T[j]? := fun j hj => (p1.2.2 j (by simp at hj; omega))
    refine c1 H s1 f1 (fun T2 cp w2 p2 n2 l2 f2 => ?_)
    have lowcp : N₀ ≤ cp := n2
    have hne : cr ≠ cp := l2 (cr, Obj.chan 0 #[] false 0 0 false) (by simp)
    replace g40 := (p2.2.2 40 (by decide)).trans g40
    have g41 := p2.2.1
    have s2 : T2.size = 79 := p2.1.trans s1
    have j2 : ∀ j ∈ [0, 7, 6, 8, 33, 34, 35, 9, 10], T2[j]? = T[j]? := fun j hj => (p2.2.2 j (by simp at hj; omega)).trans (j1 j hj)
    refine c4 H s2 f2 (fun T3 bw w3 p3 n3 l3 f3 => ?_)
    have lowbw : N₀ ≤ bw := n3
    replace g40 := (p3.2.2 40 (by decide)).trans g40
    replace g41 := (p3.2.2 41 (by decide)).trans g41
    have g11 := p3.2.1
    have s3 : T3.size = 79 := p3.1.trans s2
    have j3 : ∀ j ∈ [0, 7, 6, 8, 33, 34, 35, 9, 10], T3[j]? = T[j]? := fun j hj => (p3.2.2 j (by simp at hj; omega)).trans (j2 j hj)
    refine c2 H s3 f3 (cr := cr) (cp := cp) g40 g41 (fun T4 w4 p4 f4 => ?_)
    replace g40 := (p4.2.2 40 (by decide)).trans g40
    replace g41 := (p4.2.2 41 (by decide)).trans g41
    replace g11 := (p4.2.2 11 (by decide)).trans g11
    have g42 := p4.2.1
    have s4 : T4.size = 79 := p4.1.trans s3
    have j4 : ∀ j ∈ [0, 7, 6, 8, 33, 34, 35, 9, 10], T4[j]? = T[j]? := fun j hj => (p4.2.2 j (by simp at hj; omega)).trans (j3 j hj)
    refine c3 H s4 f4 (cr := cr) (cp := cp) g42 (fun T5 bs w5 p5 n5 l5 f5 => ?_)
    have lowbs : N₀ ≤ bs := n5
    replace g40 := (p5.2.2 40 (by decide)).trans g40
    replace g41 := (p5.2.2 41 (by decide)).trans g41
    replace g11 := (p5.2.2 11 (by decide)).trans g11
    replace g42 := (p5.2.2 42 (by decide)).trans g42
    have g43 := p5.2.1
    have s5 : T5.size = 79 := p5.1.trans s4
    have j5 : ∀ j ∈ [0, 7, 6, 8, 33, 34, 35, 9, 10], T5[j]? = T[j]? := fun j hj => (p5.2.2 j (by simp at hj; omega)).trans (j4 j hj)
    refine c5 H s5 f5 (bw := bw) (bs := bs) lowbw g11 g43 (by simp) (fun w6 q6 b6 f6 => ?_)
    have hbs := (f5.2 (bs, Obj.cells #[.chan (some cr), .chan (some cp), .bool false] 71 (0, 0)) (by simp)).1
    have hbw := (f5.2 (bw, Obj.cells #[.pointer none] 67 (0, 0)) (by simp)).1
    have kbi : w6.heap[bi]? = some (Obj.cells #[.int .i64 i] 3 (0, 0)) := f6 (bi, Obj.cells #[.int .i64 i] 3 (0, 0)) (by simp) (fun e => by have h1 := (f5.2 (bi, Obj.cells #[.int .i64 i] 3 (0, 0)) (by simp)).1; simp only at e h1; rw [e, hbw] at h1; cases h1)
    have kbt : w6.heap[bt]? = some (Obj.cells #[tv] 50 (0, 0)) := f6 (bt, Obj.cells #[tv] 50 (0, 0)) (by simp) (fun e => by have h1 := (f5.2 (bt, Obj.cells #[tv] 50 (0, 0)) (by simp)).1; simp only at e h1; rw [e, hbw] at h1; cases h1)
    have kcr : w6.heap[cr]? = some (Obj.chan 0 #[] false 0 0 false) := f6 (cr, Obj.chan 0 #[] false 0 0 false) (by simp) (fun e => by have h1 := (f5.2 (cr, Obj.chan 0 #[] false 0 0 false) (by simp)).1; simp only at e h1; rw [e, hbw] at h1; cases h1)
    have kcp : w6.heap[cp]? = some (Obj.chan 0 #[] false 0 0 false) := f6 (cp, Obj.chan 0 #[] false 0 0 false) (by simp) (fun e => by have h1 := (f5.2 (cp, Obj.chan 0 #[] false 0 0 false) (by simp)).1; simp only at e h1; rw [e, hbw] at h1; cases h1)
    have kbs : w6.heap[bs]? = some (Obj.cells #[.chan (some cr), .chan (some cp), .bool false] 71 (0, 0)) := f6 (bs, Obj.cells #[.chan (some cr), .chan (some cp), .bool false] 71 (0, 0)) (by simp) (fun e => by have h1 := (f5.2 (bs, Obj.cells #[.chan (some cr), .chan (some cp), .bool false] 71 (0, 0)) (by simp)).1; simp only at e h1; rw [e, hbw] at h1; cases h1)
    exact Goes.mono (key _ cr cp bs bw w6 s5 (fun j hj => j5 j hj) g11 ⟨q6, kbi, kbt, kcr, kcp, kbs, b6, hne, lowcr, lowcp, lowbs, lowbw⟩) (by omega)
  · refine c0 H hT hF (fun T1 cr w1 p1 n1 l1 f1 => ?_)
    have lowcr : N₀ ≤ cr := n1
    have g40 := p1.2.1
    have s1 : T1.size = 79 := p1.1.trans hT
    have j1 : ∀ j ∈ [0, 7, 6, 8, 33, 34, 35, 9, 10], T1[j]? = T[j]? := fun j hj => (p1.2.2 j (by simp at hj; omega))
    refine c4 H s1 f1 (fun T2 bw w2 p2 n2 l2 f2 => ?_)
    have lowbw : N₀ ≤ bw := n2
    replace g40 := (p2.2.2 40 (by decide)).trans g40
    have g11 := p2.2.1
    have s2 : T2.size = 79 := p2.1.trans s1
    have j2 : ∀ j ∈ [0, 7, 6, 8, 33, 34, 35, 9, 10], T2[j]? = T[j]? := fun j hj => (p2.2.2 j (by simp at hj; omega)).trans (j1 j hj)
    refine c1 H s2 f2 (fun T3 cp w3 p3 n3 l3 f3 => ?_)
    have lowcp : N₀ ≤ cp := n3
    have hne : cr ≠ cp := l3 (cr, Obj.chan 0 #[] false 0 0 false) (by simp)
    replace g40 := (p3.2.2 40 (by decide)).trans g40
    replace g11 := (p3.2.2 11 (by decide)).trans g11
    have g41 := p3.2.1
    have s3 : T3.size = 79 := p3.1.trans s2
    have j3 : ∀ j ∈ [0, 7, 6, 8, 33, 34, 35, 9, 10], T3[j]? = T[j]? := fun j hj => (p3.2.2 j (by simp at hj; omega)).trans (j2 j hj)
    refine c2 H s3 f3 (cr := cr) (cp := cp) g40 g41 (fun T4 w4 p4 f4 => ?_)
    replace g40 := (p4.2.2 40 (by decide)).trans g40
    replace g11 := (p4.2.2 11 (by decide)).trans g11
    replace g41 := (p4.2.2 41 (by decide)).trans g41
    have g42 := p4.2.1
    have s4 : T4.size = 79 := p4.1.trans s3
    have j4 : ∀ j ∈ [0, 7, 6, 8, 33, 34, 35, 9, 10], T4[j]? = T[j]? := fun j hj => (p4.2.2 j (by simp at hj; omega)).trans (j3 j hj)
    refine c3 H s4 f4 (cr := cr) (cp := cp) g42 (fun T5 bs w5 p5 n5 l5 f5 => ?_)
    have lowbs : N₀ ≤ bs := n5
    replace g40 := (p5.2.2 40 (by decide)).trans g40
    replace g11 := (p5.2.2 11 (by decide)).trans g11
    replace g41 := (p5.2.2 41 (by decide)).trans g41
    replace g42 := (p5.2.2 42 (by decide)).trans g42
    have g43 := p5.2.1
    have s5 : T5.size = 79 := p5.1.trans s4
    have j5 : ∀ j ∈ [0, 7, 6, 8, 33, 34, 35, 9, 10], T5[j]? = T[j]? := fun j hj => (p5.2.2 j (by simp at hj; omega)).trans (j4 j hj)
    refine c5 H s5 f5 (bw := bw) (bs := bs) lowbw g11 g43 (by simp) (fun w6 q6 b6 f6 => ?_)
    have hbs := (f5.2 (bs, Obj.cells #[.chan (some cr), .chan (some cp), .bool false] 71 (0, 0)) (by simp)).1
    have hbw := (f5.2 (bw, Obj.cells #[.pointer none] 67 (0, 0)) (by simp)).1
    have kbi : w6.heap[bi]? = some (Obj.cells #[.int .i64 i] 3 (0, 0)) := f6 (bi, Obj.cells #[.int .i64 i] 3 (0, 0)) (by simp) (fun e => by have h1 := (f5.2 (bi, Obj.cells #[.int .i64 i] 3 (0, 0)) (by simp)).1; simp only at e h1; rw [e, hbw] at h1; cases h1)
    have kbt : w6.heap[bt]? = some (Obj.cells #[tv] 50 (0, 0)) := f6 (bt, Obj.cells #[tv] 50 (0, 0)) (by simp) (fun e => by have h1 := (f5.2 (bt, Obj.cells #[tv] 50 (0, 0)) (by simp)).1; simp only at e h1; rw [e, hbw] at h1; cases h1)
    have kcr : w6.heap[cr]? = some (Obj.chan 0 #[] false 0 0 false) := f6 (cr, Obj.chan 0 #[] false 0 0 false) (by simp) (fun e => by have h1 := (f5.2 (cr, Obj.chan 0 #[] false 0 0 false) (by simp)).1; simp only at e h1; rw [e, hbw] at h1; cases h1)
    have kcp : w6.heap[cp]? = some (Obj.chan 0 #[] false 0 0 false) := f6 (cp, Obj.chan 0 #[] false 0 0 false) (by simp) (fun e => by have h1 := (f5.2 (cp, Obj.chan 0 #[] false 0 0 false) (by simp)).1; simp only at e h1; rw [e, hbw] at h1; cases h1)
    have kbs : w6.heap[bs]? = some (Obj.cells #[.chan (some cr), .chan (some cp), .bool false] 71 (0, 0)) := f6 (bs, Obj.cells #[.chan (some cr), .chan (some cp), .bool false] 71 (0, 0)) (by simp) (fun e => by have h1 := (f5.2 (bs, Obj.cells #[.chan (some cr), .chan (some cp), .bool false] 71 (0, 0)) (by simp)).1; simp only at e h1; rw [e, hbw] at h1; cases h1)
    exact Goes.mono (key _ cr cp bs bw w6 s5 (fun j hj => j5 j hj) g11 ⟨q6, kbi, kbt, kcr, kcp, kbs, b6, hne, lowcr, lowcp, lowbs, lowbw⟩) (by omega)
  · refine c1 H hT hF (fun T1 cp w1 p1 n1 l1 f1 => ?_)
    have lowcp : N₀ ≤ cp := n1
    have g41 := p1.2.1
    have s1 : T1.size = 79 := p1.1.trans hT
    have j1 : ∀ j ∈ [0, 7, 6, 8, 33, 34, 35, 9, 10], T1[j]? = T[j]? := fun j hj => (p1.2.2 j (by simp at hj; omega))
    refine c0 H s1 f1 (fun T2 cr w2 p2 n2 l2 f2 => ?_)
    have lowcr : N₀ ≤ cr := n2
    have hne : cp ≠ cr := l2 (cp, Obj.chan 0 #[] false 0 0 false) (by simp)
    replace hne := hne.symm
    replace g41 := (p2.2.2 41 (by decide)).trans g41
    have g40 := p2.2.1
    have s2 : T2.size = 79 := p2.1.trans s1
    have j2 : ∀ j ∈ [0, 7, 6, 8, 33, 34, 35, 9, 10], T2[j]? = T[j]? := fun j hj => (p2.2.2 j (by simp at hj; omega)).trans (j1 j hj)
    refine c2 H s2 f2 (cr := cr) (cp := cp) g40 g41 (fun T3 w3 p3 f3 => ?_)
    replace g41 := (p3.2.2 41 (by decide)).trans g41
    replace g40 := (p3.2.2 40 (by decide)).trans g40
    have g42 := p3.2.1
    have s3 : T3.size = 79 := p3.1.trans s2
    have j3 : ∀ j ∈ [0, 7, 6, 8, 33, 34, 35, 9, 10], T3[j]? = T[j]? := fun j hj => (p3.2.2 j (by simp at hj; omega)).trans (j2 j hj)
    refine c3 H s3 f3 (cr := cr) (cp := cp) g42 (fun T4 bs w4 p4 n4 l4 f4 => ?_)
    have lowbs : N₀ ≤ bs := n4
    replace g41 := (p4.2.2 41 (by decide)).trans g41
    replace g40 := (p4.2.2 40 (by decide)).trans g40
    replace g42 := (p4.2.2 42 (by decide)).trans g42
    have g43 := p4.2.1
    have s4 : T4.size = 79 := p4.1.trans s3
    have j4 : ∀ j ∈ [0, 7, 6, 8, 33, 34, 35, 9, 10], T4[j]? = T[j]? := fun j hj => (p4.2.2 j (by simp at hj; omega)).trans (j3 j hj)
    refine c4 H s4 f4 (fun T5 bw w5 p5 n5 l5 f5 => ?_)
    have lowbw : N₀ ≤ bw := n5
    replace g41 := (p5.2.2 41 (by decide)).trans g41
    replace g40 := (p5.2.2 40 (by decide)).trans g40
    replace g42 := (p5.2.2 42 (by decide)).trans g42
    replace g43 := (p5.2.2 43 (by decide)).trans g43
    have g11 := p5.2.1
    have s5 : T5.size = 79 := p5.1.trans s4
    have j5 : ∀ j ∈ [0, 7, 6, 8, 33, 34, 35, 9, 10], T5[j]? = T[j]? := fun j hj => (p5.2.2 j (by simp at hj; omega)).trans (j4 j hj)
    refine c5 H s5 f5 (bw := bw) (bs := bs) lowbw g11 g43 (by simp) (fun w6 q6 b6 f6 => ?_)
    have hbs := (f5.2 (bs, Obj.cells #[.chan (some cr), .chan (some cp), .bool false] 71 (0, 0)) (by simp)).1
    have hbw := (f5.2 (bw, Obj.cells #[.pointer none] 67 (0, 0)) (by simp)).1
    have kbi : w6.heap[bi]? = some (Obj.cells #[.int .i64 i] 3 (0, 0)) := f6 (bi, Obj.cells #[.int .i64 i] 3 (0, 0)) (by simp) (fun e => by have h1 := (f5.2 (bi, Obj.cells #[.int .i64 i] 3 (0, 0)) (by simp)).1; simp only at e h1; rw [e, hbw] at h1; cases h1)
    have kbt : w6.heap[bt]? = some (Obj.cells #[tv] 50 (0, 0)) := f6 (bt, Obj.cells #[tv] 50 (0, 0)) (by simp) (fun e => by have h1 := (f5.2 (bt, Obj.cells #[tv] 50 (0, 0)) (by simp)).1; simp only at e h1; rw [e, hbw] at h1; cases h1)
    have kcr : w6.heap[cr]? = some (Obj.chan 0 #[] false 0 0 false) := f6 (cr, Obj.chan 0 #[] false 0 0 false) (by simp) (fun e => by have h1 := (f5.2 (cr, Obj.chan 0 #[] false 0 0 false) (by simp)).1; simp only at e h1; rw [e, hbw] at h1; cases h1)
    have kcp : w6.heap[cp]? = some (Obj.chan 0 #[] false 0 0 false) := f6 (cp, Obj.chan 0 #[] false 0 0 false) (by simp) (fun e => by have h1 := (f5.2 (cp, Obj.chan 0 #[] false 0 0 false) (by simp)).1; simp only at e h1; rw [e, hbw] at h1; cases h1)
    have kbs : w6.heap[bs]? = some (Obj.cells #[.chan (some cr), .chan (some cp), .bool false] 71 (0, 0)) := f6 (bs, Obj.cells #[.chan (some cr), .chan (some cp), .bool false] 71 (0, 0)) (by simp) (fun e => by have h1 := (f5.2 (bs, Obj.cells #[.chan (some cr), .chan (some cp), .bool false] 71 (0, 0)) (by simp)).1; simp only at e h1; rw [e, hbw] at h1; cases h1)
    exact Goes.mono (key _ cr cp bs bw w6 s5 (fun j hj => j5 j hj) g11 ⟨q6, kbi, kbt, kcr, kcp, kbs, b6, hne, lowcr, lowcp, lowbs, lowbw⟩) (by omega)
  · refine c1 H hT hF (fun T1 cp w1 p1 n1 l1 f1 => ?_)
    have lowcp : N₀ ≤ cp := n1
    have g41 := p1.2.1
    have s1 : T1.size = 79 := p1.1.trans hT
    have j1 : ∀ j ∈ [0, 7, 6, 8, 33, 34, 35, 9, 10], T1[j]? = T[j]? := fun j hj => (p1.2.2 j (by simp at hj; omega))
    refine c0 H s1 f1 (fun T2 cr w2 p2 n2 l2 f2 => ?_)
    have lowcr : N₀ ≤ cr := n2
    have hne : cp ≠ cr := l2 (cp, Obj.chan 0 #[] false 0 0 false) (by simp)
    replace hne := hne.symm
    replace g41 := (p2.2.2 41 (by decide)).trans g41
    have g40 := p2.2.1
    have s2 : T2.size = 79 := p2.1.trans s1
    have j2 : ∀ j ∈ [0, 7, 6, 8, 33, 34, 35, 9, 10], T2[j]? = T[j]? := fun j hj => (p2.2.2 j (by simp at hj; omega)).trans (j1 j hj)
    refine c2 H s2 f2 (cr := cr) (cp := cp) g40 g41 (fun T3 w3 p3 f3 => ?_)
    replace g41 := (p3.2.2 41 (by decide)).trans g41
    replace g40 := (p3.2.2 40 (by decide)).trans g40
    have g42 := p3.2.1
    have s3 : T3.size = 79 := p3.1.trans s2
    have j3 : ∀ j ∈ [0, 7, 6, 8, 33, 34, 35, 9, 10], T3[j]? = T[j]? := fun j hj => (p3.2.2 j (by simp at hj; omega)).trans (j2 j hj)
    refine c4 H s3 f3 (fun T4 bw w4 p4 n4 l4 f4 => ?_)
    have lowbw : N₀ ≤ bw := n4
    replace g41 := (p4.2.2 41 (by decide)).trans g41
    replace g40 := (p4.2.2 40 (by decide)).trans g40
    replace g42 := (p4.2.2 42 (by decide)).trans g42
    have g11 := p4.2.1
    have s4 : T4.size = 79 := p4.1.trans s3
    have j4 : ∀ j ∈ [0, 7, 6, 8, 33, 34, 35, 9, 10], T4[j]? = T[j]? := fun j hj => (p4.2.2 j (by simp at hj; omega)).trans (j3 j hj)
    refine c3 H s4 f4 (cr := cr) (cp := cp) g42 (fun T5 bs w5 p5 n5 l5 f5 => ?_)
    have lowbs : N₀ ≤ bs := n5
    replace g41 := (p5.2.2 41 (by decide)).trans g41
    replace g40 := (p5.2.2 40 (by decide)).trans g40
    replace g42 := (p5.2.2 42 (by decide)).trans g42
    replace g11 := (p5.2.2 11 (by decide)).trans g11
    have g43 := p5.2.1
    have s5 : T5.size = 79 := p5.1.trans s4
    have j5 : ∀ j ∈ [0, 7, 6, 8, 33, 34, 35, 9, 10], T5[j]? = T[j]? := fun j hj => (p5.2.2 j (by simp at hj; omega)).trans (j4 j hj)
    refine c5 H s5 f5 (bw := bw) (bs := bs) lowbw g11 g43 (by simp) (fun w6 q6 b6 f6 => ?_)
    have hbs := (f5.2 (bs, Obj.cells #[.chan (some cr), .chan (some cp), .bool false] 71 (0, 0)) (by simp)).1
    have hbw := (f5.2 (bw, Obj.cells #[.pointer none] 67 (0, 0)) (by simp)).1
    have kbi : w6.heap[bi]? = some (Obj.cells #[.int .i64 i] 3 (0, 0)) := f6 (bi, Obj.cells #[.int .i64 i] 3 (0, 0)) (by simp) (fun e => by have h1 := (f5.2 (bi, Obj.cells #[.int .i64 i] 3 (0, 0)) (by simp)).1; simp only at e h1; rw [e, hbw] at h1; cases h1)
    have kbt : w6.heap[bt]? = some (Obj.cells #[tv] 50 (0, 0)) := f6 (bt, Obj.cells #[tv] 50 (0, 0)) (by simp) (fun e => by have h1 := (f5.2 (bt, Obj.cells #[tv] 50 (0, 0)) (by simp)).1; simp only at e h1; rw [e, hbw] at h1; cases h1)
    have kcr : w6.heap[cr]? = some (Obj.chan 0 #[] false 0 0 false) := f6 (cr, Obj.chan 0 #[] false 0 0 false) (by simp) (fun e => by have h1 := (f5.2 (cr, Obj.chan 0 #[] false 0 0 false) (by simp)).1; simp only at e h1; rw [e, hbw] at h1; cases h1)
    have kcp : w6.heap[cp]? = some (Obj.chan 0 #[] false 0 0 false) := f6 (cp, Obj.chan 0 #[] false 0 0 false) (by simp) (fun e => by have h1 := (f5.2 (cp, Obj.chan 0 #[] false 0 0 false) (by simp)).1; simp only at e h1; rw [e, hbw] at h1; cases h1)
    have kbs : w6.heap[bs]? = some (Obj.cells #[.chan (some cr), .chan (some cp), .bool false] 71 (0, 0)) := f6 (bs, Obj.cells #[.chan (some cr), .chan (some cp), .bool false] 71 (0, 0)) (by simp) (fun e => by have h1 := (f5.2 (bs, Obj.cells #[.chan (some cr), .chan (some cp), .bool false] 71 (0, 0)) (by simp)).1; simp only at e h1; rw [e, hbw] at h1; cases h1)
    exact Goes.mono (key _ cr cp bs bw w6 s5 (fun j hj => j5 j hj) g11 ⟨q6, kbi, kbt, kcr, kcp, kbs, b6, hne, lowcr, lowcp, lowbs, lowbw⟩) (by omega)
  · refine c1 H hT hF (fun T1 cp w1 p1 n1 l1 f1 => ?_)
    have lowcp : N₀ ≤ cp := n1
    have g41 := p1.2.1
    have s1 : T1.size = 79 := p1.1.trans hT
    have j1 : ∀ j ∈ [0, 7, 6, 8, 33, 34, 35, 9, 10], T1[j]? = T[j]? := fun j hj => (p1.2.2 j (by simp at hj; omega))
    refine c0 H s1 f1 (fun T2 cr w2 p2 n2 l2 f2 => ?_)
    have lowcr : N₀ ≤ cr := n2
    have hne : cp ≠ cr := l2 (cp, Obj.chan 0 #[] false 0 0 false) (by simp)
    replace hne := hne.symm
    replace g41 := (p2.2.2 41 (by decide)).trans g41
    have g40 := p2.2.1
    have s2 : T2.size = 79 := p2.1.trans s1
    have j2 : ∀ j ∈ [0, 7, 6, 8, 33, 34, 35, 9, 10], T2[j]? = T[j]? := fun j hj => (p2.2.2 j (by simp at hj; omega)).trans (j1 j hj)
    refine c4 H s2 f2 (fun T3 bw w3 p3 n3 l3 f3 => ?_)
    have lowbw : N₀ ≤ bw := n3
    replace g41 := (p3.2.2 41 (by decide)).trans g41
    replace g40 := (p3.2.2 40 (by decide)).trans g40
    have g11 := p3.2.1
    have s3 : T3.size = 79 := p3.1.trans s2
    have j3 : ∀ j ∈ [0, 7, 6, 8, 33, 34, 35, 9, 10], T3[j]? = T[j]? := fun j hj => (p3.2.2 j (by simp at hj; omega)).trans (j2 j hj)
    refine c2 H s3 f3 (cr := cr) (cp := cp) g40 g41 (fun T4 w4 p4 f4 => ?_)
    replace g41 := (p4.2.2 41 (by decide)).trans g41
    replace g40 := (p4.2.2 40 (by decide)).trans g40
    replace g11 := (p4.2.2 11 (by decide)).trans g11
    have g42 := p4.2.1
    have s4 : T4.size = 79 := p4.1.trans s3
    have j4 : ∀ j ∈ [0, 7, 6, 8, 33, 34, 35, 9, 10], T4[j]? = T[j]? := fun j hj => (p4.2.2 j (by simp at hj; omega)).trans (j3 j hj)
    refine c3 H s4 f4 (cr := cr) (cp := cp) g42 (fun T5 bs w5 p5 n5 l5 f5 => ?_)
    have lowbs : N₀ ≤ bs := n5
    replace g41 := (p5.2.2 41 (by decide)).trans g41
    replace g40 := (p5.2.2 40 (by decide)).trans g40
    replace g11 := (p5.2.2 11 (by decide)).trans g11
    replace g42 := (p5.2.2 42 (by decide)).trans g42
    have g43 := p5.2.1
    have s5 : T5.size = 79 := p5.1.trans s4
    have j5 : ∀ j ∈ [0, 7, 6, 8, 33, 34, 35, 9, 10], T5[j]? = T[j]? := fun j hj => (p5.2.2 j (by simp at hj; omega)).trans (j4 j hj)
    refine c5 H s5 f5 (bw := bw) (bs := bs) lowbw g11 g43 (by simp) (fun w6 q6 b6 f6 => ?_)
    have hbs := (f5.2 (bs, Obj.cells #[.chan (some cr), .chan (some cp), .bool false] 71 (0, 0)) (by simp)).1
    have hbw := (f5.2 (bw, Obj.cells #[.pointer none] 67 (0, 0)) (by simp)).1
    have kbi : w6.heap[bi]? = some (Obj.cells #[.int .i64 i] 3 (0, 0)) := f6 (bi, Obj.cells #[.int .i64 i] 3 (0, 0)) (by simp) (fun e => by have h1 := (f5.2 (bi, Obj.cells #[.int .i64 i] 3 (0, 0)) (by simp)).1; simp only at e h1; rw [e, hbw] at h1; cases h1)
    have kbt : w6.heap[bt]? = some (Obj.cells #[tv] 50 (0, 0)) := f6 (bt, Obj.cells #[tv] 50 (0, 0)) (by simp) (fun e => by have h1 := (f5.2 (bt, Obj.cells #[tv] 50 (0, 0)) (by simp)).1; simp only at e h1; rw [e, hbw] at h1; cases h1)
    have kcr : w6.heap[cr]? = some (Obj.chan 0 #[] false 0 0 false) := f6 (cr, Obj.chan 0 #[] false 0 0 false) (by simp) (fun e => by have h1 := (f5.2 (cr, Obj.chan 0 #[] false 0 0 false) (by simp)).1; simp only at e h1; rw [e, hbw] at h1; cases h1)
    have kcp : w6.heap[cp]? = some (Obj.chan 0 #[] false 0 0 false) := f6 (cp, Obj.chan 0 #[] false 0 0 false) (by simp) (fun e => by have h1 := (f5.2 (cp, Obj.chan 0 #[] false 0 0 false) (by simp)).1; simp only at e h1; rw [e, hbw] at h1; cases h1)
    have kbs : w6.heap[bs]? = some (Obj.cells #[.chan (some cr), .chan (some cp), .bool false] 71 (0, 0)) := f6 (bs, Obj.cells #[.chan (some cr), .chan (some cp), .bool false] 71 (0, 0)) (by simp) (fun e => by have h1 := (f5.2 (bs, Obj.cells #[.chan (some cr), .chan (some cp), .bool false] 71 (0, 0)) (by simp)).1; simp only at e h1; rw [e, hbw] at h1; cases h1)
    exact Goes.mono (key _ cr cp bs bw w6 s5 (fun j hj => j5 j hj) g11 ⟨q6, kbi, kbt, kcr, kcp, kbs, b6, hne, lowcr, lowcp, lowbs, lowbw⟩) (by omega)
  · refine c1 H hT hF (fun T1 cp w1 p1 n1 l1 f1 => ?_)
    have lowcp : N₀ ≤ cp := n1
    have g41 := p1.2.1
    have s1 : T1.size = 79 := p1.1.trans hT
    have j1 : ∀ j ∈ [0, 7, 6, 8, 33, 34, 35, 9, 10], T1[j]? = T[j]? := fun j hj => (p1.2.2 j (by simp at hj; omega))
    refine c4 H s1 f1 (fun T2 bw w2 p2 n2 l2 f2 => ?_)
    have lowbw : N₀ ≤ bw := n2
    replace g41 := (p2.2.2 41 (by decide)).trans g41
    have g11 := p2.2.1
    have s2 : T2.size = 79 := p2.1.trans s1
    have j2 : ∀ j ∈ [0, 7, 6, 8, 33, 34, 35, 9, 10], T2[j]? = T[j]? := fun j hj => (p2.2.2 j (by simp at hj; omega)).trans (j1 j hj)
    refine c0 H s2 f2 (fun T3 cr w3 p3 n3 l3 f3 => ?_)
    have lowcr : N₀ ≤ cr := n3
    have hne : cp ≠ cr := l3 (cp, Obj.chan 0 #[] false 0 0 false) (by simp)
    replace hne := hne.symm
    replace g41 := (p3.2.2 41 (by decide)).trans g41
    replace g11 := (p3.2.2 11 (by decide)).trans g11
    have g40 := p3.2.1
    have s3 : T3.size = 79 := p3.1.trans s2
    have j3 : ∀ j ∈ [0, 7, 6, 8, 33, 34, 35, 9, 10], T3[j]? = T[j]? := fun j hj => (p3.2.2 j (by simp at hj; omega)).trans (j2 j hj)
    refine c2 H s3 f3 (cr := cr) (cp := cp) g40 g41 (fun T4 w4 p4 f4 => ?_)
    replace g41 := (p4.2.2 41 (by decide)).trans g41
    replace g11 := (p4.2.2 11 (by decide)).trans g11
    replace g40 := (p4.2.2 40 (by decide)).trans g40
    have g42 := p4.2.1
    have s4 : T4.size = 79 := p4.1.trans s3
    have j4 : ∀ j ∈ [0, 7, 6, 8, 33, 34, 35, 9, 10], T4[j]? = T[j]? := fun j hj => (p4.2.2 j (by simp at hj; omega)).trans (j3 j hj)
    refine c3 H s4 f4 (cr := cr) (cp := cp) g42 (fun T5 bs w5 p5 n5 l5 f5 => ?_)
    have lowbs : N₀ ≤ bs := n5
    replace g41 := (p5.2.2 41 (by decide)).trans g41
    replace g11 := (p5.2.2 11 (by decide)).trans g11
    replace g40 := (p5.2.2 40 (by decide)).trans g40
    replace g42 := (p5.2.2 42 (by decide)).trans g42
    have g43 := p5.2.1
    have s5 : T5.size = 79 := p5.1.trans s4
    have j5 : ∀ j ∈ [0, 7, 6, 8, 33, 34, 35, 9, 10], T5[j]? = T[j]? := fun j hj => (p5.2.2 j (by simp at hj; omega)).trans (j4 j hj)
    refine c5 H s5 f5 (bw := bw) (bs := bs) lowbw g11 g43 (by simp) (fun w6 q6 b6 f6 => ?_)
    have hbs := (f5.2 (bs, Obj.cells #[.chan (some cr), .chan (some cp), .bool false] 71 (0, 0)) (by simp)).1
    have hbw := (f5.2 (bw, Obj.cells #[.pointer none] 67 (0, 0)) (by simp)).1
    have kbi : w6.heap[bi]? = some (Obj.cells #[.int .i64 i] 3 (0, 0)) := f6 (bi, Obj.cells #[.int .i64 i] 3 (0, 0)) (by simp) (fun e => by have h1 := (f5.2 (bi, Obj.cells #[.int .i64 i] 3 (0, 0)) (by simp)).1; simp only at e h1; rw [e, hbw] at h1; cases h1)
    have kbt : w6.heap[bt]? = some (Obj.cells #[tv] 50 (0, 0)) := f6 (bt, Obj.cells #[tv] 50 (0, 0)) (by simp) (fun e => by have h1 := (f5.2 (bt, Obj.cells #[tv] 50 (0, 0)) (by simp)).1; simp only at e h1; rw [e, hbw] at h1; cases h1)
    have kcr : w6.heap[cr]? = some (Obj.chan 0 #[] false 0 0 false) := f6 (cr, Obj.chan 0 #[] false 0 0 false) (by simp) (fun e => by have h1 := (f5.2 (cr, Obj.chan 0 #[] false 0 0 false) (by simp)).1; simp only at e h1; rw [e, hbw] at h1; cases h1)
    have kcp : w6.heap[cp]? = some (Obj.chan 0 #[] false 0 0 false) := f6 (cp, Obj.chan 0 #[] false 0 0 false) (by simp) (fun e => by have h1 := (f5.2 (cp, Obj.chan 0 #[] false 0 0 false) (by simp)).1; simp only at e h1; rw [e, hbw] at h1; cases h1)
    have kbs : w6.heap[bs]? = some (Obj.cells #[.chan (some cr), .chan (some cp), .bool false] 71 (0, 0)) := f6 (bs, Obj.cells #[.chan (some cr), .chan (some cp), .bool false] 71 (0, 0)) (by simp) (fun e => by have h1 := (f5.2 (bs, Obj.cells #[.chan (some cr), .chan (some cp), .bool false] 71 (0, 0)) (by simp)).1; simp only at e h1; rw [e, hbw] at h1; cases h1)
    exact Goes.mono (key _ cr cp bs bw w6 s5 (fun j hj => j5 j hj) g11 ⟨q6, kbi, kbt, kcr, kcp, kbs, b6, hne, lowcr, lowcp, lowbs, lowbw⟩) (by omega)
  · refine c4 H hT hF (fun T1 bw w1 p1 n1 l1 f1 => ?_)
    have lowbw : N₀ ≤ bw := n1
    have g11 := p1.2.1
    have s1 : T1.size = 79 := p1.1.trans hT
    have j1 : ∀ j ∈ [0, 7, 6, 8, 33, 34, 35, 9, 10], T1[j]? = T[j]? := fun j hj => (p1.2.2 j (by simp at hj; omega))
    refine c0 H s1 f1 (fun T2 cr w2 p2 n2 l2 f2 => ?_)
    have lowcr : N₀ ≤ cr := n2
    replace g11 := (p2.2.2 11 (by decide)).trans g11
    have g40 := p2.2.1
    have s2 : T2.size = 79 := p2.1.trans s1
    have j2 : ∀ j ∈ [0, 7, 6, 8, 33, 34, 35, 9, 10], T2[j]? = T[j]? := fun j hj => (p2.2.2 j (by simp at hj; omega)).trans (j1 j hj)
    refine c1 H s2 f2 (fun T3 cp w3 p3 n3 l3 f3 => ?_)
    have lowcp : N₀ ≤ cp := n3
    have hne : cr ≠ cp := l3 (cr, Obj.chan 0 #[] false 0 0 false) (by simp)
    replace g11 := (p3.2.2 11 (by decide)).trans g11
    replace g40 := (p3.2.2 40 (by decide)).trans g40
    have g41 := p3.2.1
    have s3 : T3.size = 79 := p3.1.trans s2
    have j3 : ∀ j ∈ [0, 7, 6, 8, 33, 34, 35, 9, 10], T3[j]? = T[j]? := fun j hj => (p3.2.2 j (by simp at hj; omega)).trans (j2 j hj)
    refine c2 H s3 f3 (cr := cr) (cp := cp) g40 g41 (fun T4 w4 p4 f4 => ?_)
    replace g11 := (p4.2.2 11 (by decide)).trans g11
    replace g40 := (p4.2.2 40 (by decide)).trans g40
    replace g41 := (p4.2.2 41 (by decide)).trans g41
    have g42 := p4.2.1
    have s4 : T4.size = 79 := p4.1.trans s3
    have j4 : ∀ j ∈ [0, 7, 6, 8, 33, 34, 35, 9, 10], T4[j]? = T[j]? := fun j hj => (p4.2.2 j (by simp at hj; omega)).trans (j3 j hj)
    refine c3 H s4 f4 (cr := cr) (cp := cp) g42 (fun T5 bs w5 p5 n5 l5 f5 => ?_)
    have lowbs : N₀ ≤ bs := n5
    replace g11 := (p5.2.2 11 (by decide)).trans g11
    replace g40 := (p5.2.2 40 (by decide)).trans g40
    replace g41 := (p5.2.2 41 (by decide)).trans g41
    replace g42 := (p5.2.2 42 (by decide)).trans g42
    have g43 := p5.2.1
    have s5 : T5.size = 79 := p5.1.trans s4
    have j5 : ∀ j ∈ [0, 7, 6, 8, 33, 34, 35, 9, 10], T5[j]? = T[j]? := fun j hj => (p5.2.2 j (by simp at hj; omega)).trans (j4 j hj)
    refine c5 H s5 f5 (bw := bw) (bs := bs) lowbw g11 g43 (by simp) (fun w6 q6 b6 f6 => ?_)
    have hbs := (f5.2 (bs, Obj.cells #[.chan (some cr), .chan (some cp), .bool false] 71 (0, 0)) (by simp)).1
    have hbw := (f5.2 (bw, Obj.cells #[.pointer none] 67 (0, 0)) (by simp)).1
    have kbi : w6.heap[bi]? = some (Obj.cells #[.int .i64 i] 3 (0, 0)) := f6 (bi, Obj.cells #[.int .i64 i] 3 (0, 0)) (by simp) (fun e => by have h1 := (f5.2 (bi, Obj.cells #[.int .i64 i] 3 (0, 0)) (by simp)).1; simp only at e h1; rw [e, hbw] at h1; cases h1)
    have kbt : w6.heap[bt]? = some (Obj.cells #[tv] 50 (0, 0)) := f6 (bt, Obj.cells #[tv] 50 (0, 0)) (by simp) (fun e => by have h1 := (f5.2 (bt, Obj.cells #[tv] 50 (0, 0)) (by simp)).1; simp only at e h1; rw [e, hbw] at h1; cases h1)
    have kcr : w6.heap[cr]? = some (Obj.chan 0 #[] false 0 0 false) := f6 (cr, Obj.chan 0 #[] false 0 0 false) (by simp) (fun e => by have h1 := (f5.2 (cr, Obj.chan 0 #[] false 0 0 false) (by simp)).1; simp only at e h1; rw [e, hbw] at h1; cases h1)
    have kcp : w6.heap[cp]? = some (Obj.chan 0 #[] false 0 0 false) := f6 (cp, Obj.chan 0 #[] false 0 0 false) (by simp) (fun e => by have h1 := (f5.2 (cp, Obj.chan 0 #[] false 0 0 false) (by simp)).1; simp only at e h1; rw [e, hbw] at h1; cases h1)
    have kbs : w6.heap[bs]? = some (Obj.cells #[.chan (some cr), .chan (some cp), .bool false] 71 (0, 0)) := f6 (bs, Obj.cells #[.chan (some cr), .chan (some cp), .bool false] 71 (0, 0)) (by simp) (fun e => by have h1 := (f5.2 (bs, Obj.cells #[.chan (some cr), .chan (some cp), .bool false] 71 (0, 0)) (by simp)).1; simp only at e h1; rw [e, hbw] at h1; cases h1)
    exact Goes.mono (key _ cr cp bs bw w6 s5 (fun j hj => j5 j hj) g11 ⟨q6, kbi, kbt, kcr, kcp, kbs, b6, hne, lowcr, lowcp, lowbs, lowbw⟩) (by omega)
  · refine c4 H hT hF (fun T1 bw w1 p1 n1 l1 f1 => ?_)
    have lowbw : N₀ ≤ bw := n1
    have g11 := p1.2.1
    have s1 : T1.size = 79 := p1.1.trans hT
    have j1 : ∀ j ∈ [0, 7, 6, 8, 33, 34, 35, 9, 10], T1[j]? = T[j]? := fun j hj => (p1.2.2 j (by simp at hj; omega))
    refine c1 H s1 f1 (fun T2 cp w2 p2 n2 l2 f2 => ?_)
    have lowcp : N₀ ≤ cp := n2
    replace g11 := (p2.2.2 11 (by decide)).trans g11
    have g41 := p2.2.1
    have s2 : T2.size = 79 := p2.1.trans s1
    have j2 : ∀ j ∈ [0, 7, 6, 8, 33, 34, 35, 9, 10], T2[j]? = T[j]? := fun j hj => (p2.2.2 j (by simp at hj; omega)).trans (j1 j hj)
    refine c0 H s2 f2 (fun T3 cr w3 p3 n3 l3 f3 => ?_)
    have lowcr : N₀ ≤ cr := n3
    have hne : cp ≠ cr := l3 (cp, Obj.chan 0 #[] false 0 0 false) (by simp)
    replace hne := hne.symm
    replace g11 := (p3.2.2 11 (by decide)).trans g11
    replace g41 := (p3.2.2 41 (by decide)).trans g41
    have g40 := p3.2.1
    have s3 : T3.size = 79 := p3.1.trans s2
    have j3 : ∀ j ∈ [0, 7, 6, 8, 33, 34, 35, 9, 10], T3[j]? = T[j]? := fun j hj => (p3.2.2 j (by simp at hj; omega)).trans (j2 j hj)
    refine c2 H s3 f3 (cr := cr) (cp := cp) g40 g41 (fun T4 w4 p4 f4 => ?_)
    replace g11 := (p4.2.2 11 (by decide)).trans g11
    replace g41 := (p4.2.2 41 (by decide)).trans g41
    replace g40 := (p4.2.2 40 (by decide)).trans g40
    have g42 := p4.2.1
    have s4 : T4.size = 79 := p4.1.trans s3
    have j4 : ∀ j ∈ [0, 7, 6, 8, 33, 34, 35, 9, 10], T4[j]? = T[j]? := fun j hj => (p4.2.2 j (by simp at hj; omega)).trans (j3 j hj)
    refine c3 H s4 f4 (cr := cr) (cp := cp) g42 (fun T5 bs w5 p5 n5 l5 f5 => ?_)
    have lowbs : N₀ ≤ bs := n5
    replace g11 := (p5.2.2 11 (by decide)).trans g11
    replace g41 := (p5.2.2 41 (by decide)).trans g41
    replace g40 := (p5.2.2 40 (by decide)).trans g40
    replace g42 := (p5.2.2 42 (by decide)).trans g42
    have g43 := p5.2.1
    have s5 : T5.size = 79 := p5.1.trans s4
    have j5 : ∀ j ∈ [0, 7, 6, 8, 33, 34, 35, 9, 10], T5[j]? = T[j]? := fun j hj => (p5.2.2 j (by simp at hj; omega)).trans (j4 j hj)
    refine c5 H s5 f5 (bw := bw) (bs := bs) lowbw g11 g43 (by simp) (fun w6 q6 b6 f6 => ?_)
    have hbs := (f5.2 (bs, Obj.cells #[.chan (some cr), .chan (some cp), .bool false] 71 (0, 0)) (by simp)).1
    have hbw := (f5.2 (bw, Obj.cells #[.pointer none] 67 (0, 0)) (by simp)).1
    have kbi : w6.heap[bi]? = some (Obj.cells #[.int .i64 i] 3 (0, 0)) := f6 (bi, Obj.cells #[.int .i64 i] 3 (0, 0)) (by simp) (fun e => by have h1 := (f5.2 (bi, Obj.cells #[.int .i64 i] 3 (0, 0)) (by simp)).1; simp only at e h1; rw [e, hbw] at h1; cases h1)
    have kbt : w6.heap[bt]? = some (Obj.cells #[tv] 50 (0, 0)) := f6 (bt, Obj.cells #[tv] 50 (0, 0)) (by simp) (fun e => by have h1 := (f5.2 (bt, Obj.cells #[tv] 50 (0, 0)) (by simp)).1; simp only at e h1; rw [e, hbw] at h1; cases h1)
    have kcr : w6.heap[cr]? = some (Obj.chan 0 #[] false 0 0 false) := f6 (cr, Obj.chan 0 #[] false 0 0 false) (by simp) (fun e => by have h1 := (f5.2 (cr, Obj.chan 0 #[] false 0 0 false) (by simp)).1; simp only at e h1; rw [e, hbw] at h1; cases h1)
    have kcp : w6.heap[cp]? = some (Obj.chan 0 #[] false 0 0 false) := f6 (cp, Obj.chan 0 #[] false 0 0 false) (by simp) (fun e => by have h1 := (f5.2 (cp, Obj.chan 0 #[] false 0 0 false) (by simp)).1; simp only at e h1; rw [e, hbw] at h1; cases h1)
    have kbs : w6.heap[bs]? = some (Obj.cells #[.chan (some cr), .chan (some cp), .bool false] 71 (0, 0)) := f6 (bs, Obj.cells #[.chan (some cr), .chan (some cp), .bool false] 71 (0, 0)) (by simp) (fun e => by have h1 := (f5.2 (bs, Obj.cells #[.chan (some cr), .chan (some cp), .bool false] 71 (0, 0)) (by simp)).1; simp only at e h1; rw [e, hbw] at h1; cases h1)
    exact Goes.mono (key _ cr cp bs bw w6 s5 (fun j hj => j5 j hj) g11 ⟨q6, kbi, kbt, kcr, kcp, kbs, b6, hne, lowcr, lowcp, lowbs, lowbw⟩) (by omega)
end
end
end Go.Proofs.Ytggfcdhkgldbfaa
