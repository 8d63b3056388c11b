/-
  THE DATA of the law's awake, in memory; facts on the operations of its fourth statement.
-/
import Derived.Test.YtgeapgbebbapmaaLw21a
import Derived.Test.YtgeapgbebbapmaaReg
namespace Go.Proofs.Ytgeapgbebbapmaa
open Go.RowKit

def S0 : List Sch := [⟨[114], [1, 2]⟩]
def atom0 (a b : Str) : Atm := ⟨false, [114], [⟨a, zV⟩, ⟨b, zV⟩]⟩
def not0 : Atm := ⟨true, [114], [⟨[120], zV⟩, ⟨[], ⟨2, 0, ⟨#[97]⟩⟩⟩]⟩
def cond0 : Cnd := ⟨[121], 1, ⟨2, 0, ⟨#[98]⟩⟩⟩
def rul0 : Rul := ⟨[atom0 [120] [121], not0], [cond0]⟩
def q0 : Qry := ⟨[[120]], 0, [], [rul0], []⟩
def q1 : Qry := ⟨[[120]], 0, [], [⟨[atom0 [120] [120]], []⟩], []⟩
theorem check0 : checkT q0 S0 = (0, ⟨[1], [[([120], 1), ([121], 2)]]⟩) := by kernel_rfl
theorem guard0 : guardR rul0 1 = (0, 0) := by decide +kernel
theorem check1 : checkT q1 S0 = (5, ⟨[], []⟩) := by kernel_rfl

def W5 (w : World) : World := ((((w.alloc (.cells #[.int .i64 1, .int .i64 2] 3)).alloc (.cells #[.string ⟨#[114]⟩, .slice (some ⟨w.heap.size, 0, none⟩) 2 2] 61)).alloc (.cells #[.string ⟨#[120]⟩, .int .i64 0, .int .i64 0, .string ⟨#[]⟩, .string ⟨#[]⟩, .int .i64 2, .int .i64 0, .string ⟨#[97]⟩] 81)).alloc (.cells #[.bool true, .string ⟨#[114]⟩, .slice (some ⟨w.heap.size + 1 + 1, 0, none⟩) 2 2] 51)).alloc (.cells #[.string ⟨#[121]⟩, .int .i64 1, .int .i64 2, .int .i64 0, .string ⟨#[98]⟩] 79)
theorem cell_of_heap {w : World} {b o : Nat} {vs : Array Value} {e : TypeId} (h : w.heap[b]? = some (.cells vs e (0, 0))) {v : Value} (hv : vs[o]? = some v) : w.cell? ⟨b, o, none⟩ = some v := by
  rw [cell_res' h]; exact hv
theorem heap_new' {w : World} {o : Obj} {b : Nat} (h : w.heap.size = b) : (w.alloc o).heap[b]? = some o := by subst h; exact heap_alloc_new w o
set_option maxRecDepth 100000 in
theorem w5_size (w : World) : (W5 w).heap.size = w.heap.size + 5 := by simp [W5]
theorem w5_heap (w : World) : (W5 w).heap[w.heap.size]? = some (.cells #[.int .i64 1, .int .i64 2] 3 (0, 0)) ∧ (W5 w).heap[w.heap.size + 1]? = some (.cells #[.string ⟨#[114]⟩, .slice (some ⟨w.heap.size, 0, none⟩) 2 2] 61 (0, 0))
    ∧ (W5 w).heap[w.heap.size + 1 + 1]? = some (.cells #[.string ⟨#[120]⟩, .int .i64 0, .int .i64 0, .string ⟨#[]⟩, .string ⟨#[]⟩, .int .i64 2, .int .i64 0, .string ⟨#[97]⟩] 81 (0, 0))
    ∧ (W5 w).heap[w.heap.size + 1 + 1 + 1]? = some (.cells #[.bool true, .string ⟨#[114]⟩, .slice (some ⟨w.heap.size + 1 + 1, 0, none⟩) 2 2] 51 (0, 0))
    ∧ (W5 w).heap[w.heap.size + 1 + 1 + 1 + 1]? = some (.cells #[.string ⟨#[121]⟩, .int .i64 1, .int .i64 2, .int .i64 0, .string ⟨#[98]⟩] 79 (0, 0)) := by
  unfold W5
  refine ⟨?_, ?_, ?_, ?_, ?_⟩
  · rw [heap_alloc_old _ _ (by simp <;> omega), heap_alloc_old _ _ (by simp <;> omega), heap_alloc_old _ _ (by simp <;> omega), heap_alloc_old _ _ (by simp <;> omega), heap_alloc_new]
  · rw [heap_alloc_old _ _ (by simp <;> omega), heap_alloc_old _ _ (by simp <;> omega), heap_alloc_old _ _ (by simp <;> omega)]; exact heap_new' (by simp)
  · rw [heap_alloc_old _ _ (by simp <;> omega), heap_alloc_old _ _ (by simp <;> omega)]; exact heap_new' (by simp)
  · rw [heap_alloc_old _ _ (by simp <;> omega)]
    exact heap_new' (by simp)
  · exact heap_new' (by simp)
theorem w5_below (w : World) : Below w.heap.size w (W5 w) := by
  unfold W5
  refine ((((below_one w _).alloc (by simp) _).alloc (by simp <;> omega) _).alloc (by simp <;> omega) _).alloc (by simp <;> omega) _
theorem w5_schs (w : World) : SchsAt (W5 w) (some ⟨w.heap.size + 1, 0, none⟩) S0 := fun _ => ⟨_, _, rfl, fun i hi => by
  obtain ⟨h0, h1, _⟩ := w5_heap w
  have : i = 0 := by simpa [S0] using hi
  subst this
  refine ⟨some ⟨w.heap.size, 0, none⟩, 2, cell_of_heap h1 rfl, cell_of_heap h1 rfl, fun _ => ⟨_, _, rfl, fun j hj => ?_⟩, (by decide : 2 ≤ 2), (by decide : 2 ≤ 9223372036854775807)⟩
  have hj2 : j < 2 := hj
  match j, hj2 with
  | 0, _ => exact cell_of_heap h0 rfl
  | 1, _ => exact cell_of_heap h0 rfl⟩
theorem w5_trms (w : World) : TrmsAt (W5 w) (some ⟨w.heap.size + 1 + 1, 0, none⟩) not0.ts := fun _ => ⟨_, _, rfl, fun i hi => by
  obtain ⟨_, _, h2, _⟩ := w5_heap w
  have hj2 : i < 2 := hi
  match i, hj2 with
  | 0, _ => exact ⟨cell_of_heap h2 rfl, cell_of_heap h2 rfl, cell_of_heap h2 rfl, cell_of_heap h2 rfl⟩
  | 1, _ => exact ⟨cell_of_heap h2 rfl, cell_of_heap h2 rfl, cell_of_heap h2 rfl, cell_of_heap h2 rfl⟩⟩


theorem thenK_n {Q : Exit → Act → World → Prop} {K : Act → World → Prop} {a : Act} {w : World} (h : K a w) : thenK Q K .normal a w := h
theorem kf {d : Nat → Bool} {i j : Nat} {A B : Prop} (hne : (j == i) = false) (f : Hid (d j = true → A)) (g : A → B) : Hid (upd d i j = true → B) := hid fun h => g (f.out (by
  have : j ≠ i := by simpa using hne
  unfold upd at h
  rwa [if_neg this] at h))
theorem kd {d : Nat → Bool} {i j : Nat} (hne : (j == i) = false) (f : Hid (d j = false)) : upd d i j = false := by
  have : j ≠ i := by simpa using hne
  unfold upd
  rw [if_neg this]
  exact f.out
theorem nf {d : Nat → Bool} {i : Nat} {B : Prop} (b : B) : Hid (upd d i i = true → B) := hid fun _ => b

/-- What the operations of the statement yield. -/
def fNm (l : List Str) (x : Value) (w : World) : Prop := ∃ b, x = .slice (some ⟨b, 0, none⟩) l.length l.length ∧ NmsAt w (some ⟨b, 0, none⟩) l
def fAt (x : Value) (w : World) : Prop := ∃ T c, x = .agg #[.bool false, .string ⟨#[114]⟩, .slice T 2 c] ∧ TrmsAt w T [⟨[120], zV⟩, ⟨[121], zV⟩] ∧ 2 ≤ c
def fEq (y x : Value) (_ : World) : Prop := x = y
def fAs (x : Value) (w : World) : Prop := ∃ b, x = .slice (some ⟨b, 0, none⟩) 2 2 ∧ AtmsAt w (some ⟨b, 0, none⟩) rul0.atoms
def fCs (x : Value) (w : World) : Prop := ∃ b, x = .slice (some ⟨b, 0, none⟩) 1 1 ∧ CndsAt w (some ⟨b, 0, none⟩) rul0.conds
def fRl (x : Value) (w : World) : Prop := ∃ A B, x = .agg #[.slice (some ⟨A, 0, none⟩) 2 2, .slice (some ⟨B, 0, none⟩) 1 1] ∧ AtmsAt w (some ⟨A, 0, none⟩) rul0.atoms ∧ CndsAt w (some ⟨B, 0, none⟩) rul0.conds
def fRs (x : Value) (w : World) : Prop := ∃ b, x = .slice (some ⟨b, 0, none⟩) 1 1 ∧ RulsAt w (some ⟨b, 0, none⟩) [rul0]
def fQ (x : Value) (w : World) : Prop := ∃ A R, x = .agg #[.slice (some ⟨A, 0, none⟩) 1 1, .int .i64 0, .string ⟨#[]⟩, .slice (some ⟨R, 0, none⟩) 1 1, .slice none 0 0] ∧ NmsAt w (some ⟨A, 0, none⟩) [[120]] ∧ RulsAt w (some ⟨R, 0, none⟩) [rul0]
def fBx (B : Nat) (x : Value) (w : World) : Prop := ∃ b, x = .pointer (some ⟨b, 0, none⟩) ∧ w.heap[b]? = some (.cells #[.slice none 0 0, .int .i64 0, .string ⟨#[]⟩, .slice none 0 0, .slice none 0 0] 26 (0, 0)) ∧ B ≤ b
def fEnd (w : World) (x : Value) : Prop := ∃ b A R : Nat, x = .pointer (some ⟨b, 0, none⟩) ∧ QryIn w q0 (some ⟨A, 0, none⟩) (some ⟨R, 0, none⟩) none 1 1 0 ∧ w.heap[b]? = some (.cells #[.slice (some ⟨A, 0, none⟩) 1 1, .int .i64 0, .string ⟨#[]⟩, .slice (some ⟨R, 0, none⟩) 1 1, .slice none 0 0] 26 (0, 0))
section
variable {w w' : World} {x : Value}
theorem fNm.below {l : List Str} (h : fNm l x w) (hb : Below w.heap.size w w') : fNm l x w' := let ⟨b, e, h1⟩ := h; ⟨b, e, h1.below hb⟩
theorem fAt.below (h : fAt x w) (hb : Below w.heap.size w w') : fAt x w' := let ⟨T, c, e, h1, h2⟩ := h; ⟨T, c, e, h1.below hb, h2⟩
theorem fEq.below {y : Value} (h : fEq y x w) (_ : Below w.heap.size w w') : fEq y x w' := h
theorem fAs.below (h : fAs x w) (hb : Below w.heap.size w w') : fAs x w' := let ⟨b, e, h1⟩ := h; ⟨b, e, h1.below hb⟩
theorem fCs.below (h : fCs x w) (hb : Below w.heap.size w w') : fCs x w' := let ⟨b, e, h1⟩ := h; ⟨b, e, h1.below hb⟩
theorem fRl.below (h : fRl x w) (hb : Below w.heap.size w w') : fRl x w' := let ⟨A, B, e, h1, h2⟩ := h; ⟨A, B, e, h1.below hb, h2.below hb⟩
theorem fRs.below (h : fRs x w) (hb : Below w.heap.size w w') : fRs x w' := let ⟨b, e, h1⟩ := h; ⟨b, e, h1.below hb⟩
theorem fQ.below (h : fQ x w) (hb : Below w.heap.size w w') : fQ x w' := let ⟨A, R, e, h1, h2⟩ := h; ⟨A, R, e, h1.below hb, h2.below hb⟩
theorem fBx.below {B : Nat} (h : fBx B x w) (hb : Below w.heap.size w w') : fBx B x w' := let ⟨b, e, h1, h2⟩ := h; ⟨b, e, res_keep' h1 hb (lt_of_block h1), h2⟩
end
theorem nms_new (w : World) (l : List Str) (e : TypeId) : NmsAt (w.alloc (.cells (l.map fun s => Value.string ⟨s.toArray⟩).toArray e)) (some ⟨w.heap.size, 0, none⟩) l := fun _ => ⟨_, _, rfl, fun i hi => by
  refine cell_of_heap (heap_alloc_new w _) ?_
  simp [hi]⟩
theorem as_new {w : World} {T : Option Addr} {c n : Nat} (h : TrmsAt w T [⟨[120], zV⟩, ⟨[121], zV⟩]) (hc : 2 ≤ c) (h2 : TrmsAt w (some ⟨n, 0, none⟩) not0.ts) :
    AtmsAt (w.alloc (.cells #[.bool false, .string ⟨#[114]⟩, .slice T 2 c, .bool true, .string ⟨#[114]⟩, .slice (some ⟨n, 0, none⟩) 2 2] 51)) (some ⟨w.heap.size, 0, none⟩) rul0.atoms := fun _ => ⟨_, _, rfl, fun i hi => by
  have hn := heap_alloc_new w (.cells #[.bool false, .string ⟨#[114]⟩, .slice T 2 c, .bool true, .string ⟨#[114]⟩, .slice (some ⟨n, 0, none⟩) 2 2] 51)
  have hj2 : i < 2 := hi
  match i, hj2 with
  | 0, _ => exact ⟨T, c, cell_of_heap hn rfl, cell_of_heap hn rfl, cell_of_heap hn rfl, h.below (below_one w _), hc, (by decide : 2 ≤ 9223372036854775807)⟩
  | 1, _ => exact ⟨_, 2, cell_of_heap hn rfl, cell_of_heap hn rfl, cell_of_heap hn rfl, h2.below (below_one w _), (by decide : 2 ≤ 2), (by decide : 2 ≤ 9223372036854775807)⟩⟩
theorem cs_new (w : World) : CndsAt (w.alloc (.cells #[.string ⟨#[121]⟩, .int .i64 1, .int .i64 2, .int .i64 0, .string ⟨#[98]⟩] 79)) (some ⟨w.heap.size, 0, none⟩) rul0.conds := fun _ => ⟨_, _, rfl, fun i hi => by
  have hn := heap_alloc_new w (.cells #[.string ⟨#[121]⟩, .int .i64 1, .int .i64 2, .int .i64 0, .string ⟨#[98]⟩] 79)
  have hj2 : i < 1 := hi
  match i, hj2 with
  | 0, _ => exact ⟨cell_of_heap hn rfl, cell_of_heap hn rfl, cell_of_heap hn rfl, cell_of_heap hn rfl, cell_of_heap hn rfl⟩⟩
theorem rs_new {w : World} {A B : Nat} (h : AtmsAt w (some ⟨A, 0, none⟩) rul0.atoms) (h2 : CndsAt w (some ⟨B, 0, none⟩) rul0.conds) :
    RulsAt (w.alloc (.cells #[.slice (some ⟨A, 0, none⟩) 2 2, .slice (some ⟨B, 0, none⟩) 1 1] 46)) (some ⟨w.heap.size, 0, none⟩) [rul0] := fun _ => ⟨_, _, rfl, fun i hi => by
  have hn := heap_alloc_new w (.cells #[.slice (some ⟨A, 0, none⟩) 2 2, .slice (some ⟨B, 0, none⟩) 1 1] 46)
  have hj2 : i < 1 := hi
  match i, hj2 with
  | 0, _ => exact ⟨_, 2, _, 1, cell_of_heap hn rfl, cell_of_heap hn rfl, h.below (below_one w _), h2.below (below_one w _), (by decide : 2 ≤ 2), (by decide : 1 ≤ 1), (by decide : 2 ≤ 9223372036854775807), (by decide : 1 ≤ 9223372036854775807)⟩⟩
theorem infoQry : (Try.prog.info? 26).map (·.size) = some 5 := by kernel_rfl

/-- A store into a block whose cells are all nought: whatever begins with another value lies elsewhere. -/
theorem far {w : World} {b b' o : Nat} {zs : Array Value} {t : TypeId} {v : Value} (hz : w.heap[b]? = some (.cells zs t (0, 0))) (hv : w.cell? ⟨b', o, none⟩ = some v) (hn : ∀ i : Nat, zs[i]? ≠ some v) : b' ≠ b := by
  rintro rfl
  rw [cell_res' hz] at hv
  exact hn _ hv
theorem keep_far {w w' : World} {b b' o : Nat} {v : Value} (hg : w.grownBy w' (some b)) (hne : b' ≠ b) (hv : w.cell? ⟨b', o, none⟩ = some v) : w'.cell? ⟨b', o, none⟩ = some v := by
  have hlt := cell_lt hv
  unfold World.cell? at hv ⊢
  rw [hg.block b' hlt (fun e => hne (by injection e))]
  exact hv
theorem below_grown_at {w w' wa : World} {b : Nat} (hg : w.grownBy w' (some b)) (hb : wa.heap.size ≤ b) (h : Below wa.heap.size wa w) : Below wa.heap.size w w' :=
  (Below.refl wa.heap.size w).grown hg h.size (fun k e => by injection e with e; omega)
def zQ : Array Value := #[.slice none 0 0, .int .i64 0, .string ⟨#[]⟩, .slice none 0 0, .slice none 0 0]
theorem zQ_not {v : Value} (h : v ≠ .slice none 0 0) (h2 : v ≠ .int .i64 0) (h3 : v ≠ .string ⟨#[]⟩) : ∀ i : Nat, zQ[i]? ≠ some v := by
  intro i
  unfold zQ
  match i with
  | 0 => intro e; injection e with e; exact h e.symm
  | 1 => intro e; injection e with e; exact h2 e.symm
  | 2 => intro e; injection e with e; exact h3 e.symm
  | 3 => intro e; injection e with e; exact h e.symm
  | 4 => intro e; injection e with e; exact h e.symm
  | n + 5 => simp
theorem zQ_str (c : UInt8) : ∀ i : Nat, zQ[i]? ≠ some (Value.string ⟨#[c]⟩) := zQ_not (by intro e; cases e) (by intro e; cases e) (by intro e; injection e with e; injection e with e; cases e)
section
variable {w w' : World} {b : Nat} {t : TypeId} (hz : w.heap[b]? = some (.cells zQ t (0, 0))) (hg : w.grownBy w' (some b))
include hz hg
theorem nms_far {A : Option Addr} (h : NmsAt w A [[120]]) : NmsAt w' A [[120]] := fun hp => by
  obtain ⟨b', o, e, hc⟩ := h hp
  have hne := far hz (hc 0 (by simp)) (zQ_str 120)
  exact ⟨b', o, e, fun i hi => keep_far hg hne (hc i hi)⟩
theorem trms_far {A : Option Addr} {u : Trm} (hu : u.v = [120]) {l : List Trm} (h : TrmsAt w A (u :: l)) : TrmsAt w' A (u :: l) := fun hp => by
  obtain ⟨b', o, e, hc⟩ := h hp
  have h0 := (hc 0 (by simp)).1
  simp only [List.getElem_cons_zero, hu] at h0
  have hne := far hz h0 (zQ_str 120)
  refine ⟨b', o, e, fun i hi => ?_⟩
  obtain ⟨c0, c1, c2, c3⟩ := hc i hi
  exact ⟨keep_far hg hne c0, keep_far hg hne c1, keep_far hg hne c2, keep_far hg hne c3⟩
theorem cnds_far {A : Option Addr} (h : CndsAt w A rul0.conds) : CndsAt w' A rul0.conds := fun hp => by
  obtain ⟨b', o, e, hc⟩ := h hp
  have hne := far hz (hc 0 (by decide)).1 (zQ_str 121)
  refine ⟨b', o, e, fun i hi => ?_⟩
  obtain ⟨c0, c1, c2, c3, c4⟩ := hc i hi
  exact ⟨keep_far hg hne c0, keep_far hg hne c1, keep_far hg hne c2, keep_far hg hne c3, keep_far hg hne c4⟩
theorem atms_far {A : Option Addr} (h : AtmsAt w A rul0.atoms) : AtmsAt w' A rul0.atoms := fun hp => by
  obtain ⟨b', o, e, hc⟩ := h hp
  obtain ⟨T0, c0, d0, _⟩ := hc 0 (by decide)
  have hne := far hz d0 (zQ_not (by intro e; cases e) (by intro e; cases e) (by intro e; cases e))
  refine ⟨b', o, e, fun i hi => ?_⟩
  obtain ⟨T, c, e0, e1, e2, e3, e4, e5⟩ := hc i hi
  refine ⟨T, c, keep_far hg hne e0, keep_far hg hne e1, keep_far hg hne e2, ?_, e4, e5⟩
  have hj2 : i < 2 := hi
  match i, hj2 with
  | 0, _ => exact trms_far hz hg rfl e3
  | 1, _ => exact trms_far hz hg rfl e3
theorem ruls_far {A : Option Addr} (h : RulsAt w A [rul0]) : RulsAt w' A [rul0] := fun hp => by
  obtain ⟨b', o, e, hc⟩ := h hp
  obtain ⟨T0, c0, _, _, d0, _⟩ := hc 0 (by simp)
  have hne := far hz d0 (zQ_not (by intro e; injection e with _ e; exact absurd e (by decide)) (by intro e; cases e) (by intro e; cases e))
  refine ⟨b', o, e, fun i hi => ?_⟩
  obtain ⟨T, c, T', c', e0, e1, e2, e3, e4⟩ := hc i hi
  refine ⟨T, c, T', c', keep_far hg hne e0, keep_far hg hne e1, ?_, ?_, e4⟩
  · match i, hi with
    | 0, _ => exact atms_far hz hg e2
  · match i, hi with
    | 0, _ => exact cnds_far hz hg e3
end
theorem fEnd_mk {w w' : World} {b A R : Nat} (hz : w.heap[b]? = some (.cells #[.slice none 0 0, .int .i64 0, .string ⟨#[]⟩, .slice none 0 0, .slice none 0 0] 26 (0, 0))) (hA : NmsAt w (some ⟨A, 0, none⟩) [[120]]) (hR : RulsAt w (some ⟨R, 0, none⟩) [rul0])
    (h8 : w'.heap[b]? = some (.cells #[.slice (some ⟨A, 0, none⟩) 1 1, .int .i64 0, .string ⟨#[]⟩, .slice (some ⟨R, 0, none⟩) 1 1, .slice none 0 0] 26 (0, 0))) (hg : w.grownBy w' (some b)) : fEnd w' (.pointer (some ⟨b, 0, none⟩)) :=
  ⟨b, _, _, rfl, ⟨nms_far hz hg hA, ruls_far hz hg hR, KysAt.nil, by decide, by decide, by decide, by decide, by decide, by decide⟩, h8⟩
theorem trm_wf {t : Trm} (h1 : t.v.length ≤ 9223372036854775807) (h2 : I64 t.c.k) (h3 : I64 t.c.n) (h4 : t.c.s.size ≤ 9223372036854775807) : t.wf := ⟨h1, h2, h3, h4⟩
theorem i64_small {x : Int} (h : 0 ≤ x) (h2 : x ≤ 100) : I64 x := by unfold I64; omega
theorem zV_wf : zV.wf := ⟨i64_small (by decide) (by decide), i64_small (by decide) (by decide), by decide⟩
theorem atom0_wf (a b : Str) (ha : a.length ≤ 100) (hb : b.length ≤ 100) : (atom0 a b).wf := ⟨by show 1 ≤ 9223372036854775807; omega, fun t ht => by
  rcases List.mem_cons.1 ht with rfl | ht
  · exact ⟨by show a.length ≤ _; omega, zV_wf⟩
  · rw [List.mem_singleton] at ht
    subst ht
    exact ⟨by show b.length ≤ _; omega, zV_wf⟩⟩
theorem not0_wf : not0.wf := ⟨by decide, fun t ht => by
  rcases List.mem_cons.1 ht with rfl | ht
  · exact trm_wf (by decide) (i64_small (by decide) (by decide)) (i64_small (by decide) (by decide)) (by decide)
  · rw [List.mem_singleton] at ht
    subst ht
    exact trm_wf (by decide) (i64_small (by decide) (by decide)) (i64_small (by decide) (by decide)) (by decide)⟩
theorem rul0_wf : rul0.wf := ⟨fun a ha => by
  rcases List.mem_cons.1 ha with rfl | ha
  · exact atom0_wf _ _ (by decide) (by decide)
  · rw [List.mem_singleton] at ha
    subst ha
    exact not0_wf, fun c hc => by
  obtain rfl : c = cond0 := by simpa [rul0] using hc
  exact ⟨by decide, i64_small (by decide) (by decide), i64_small (by decide) (by decide), i64_small (by decide) (by decide), by decide⟩⟩
theorem q0_wf : q0.wf := ⟨by decide, i64_small (by decide) (by decide), by decide, fun r hr => by
  obtain rfl : r = rul0 := by simpa [q0] using hr
  exact rul0_wf, by decide⟩
theorem q1_wf : q1.wf := ⟨by decide, i64_small (by decide) (by decide), by decide, fun r hr => by
  obtain rfl : r = _ := by simpa [q1] using hr
  exact ⟨fun a ha => by
    obtain rfl : a = _ := by simpa using ha
    exact atom0_wf _ _ (by decide) (by decide), fun c hc => by simp at hc⟩, by decide⟩
theorem s0_wf : ∀ s ∈ S0, s.wf := fun s hs => by
  obtain rfl : s = ⟨[114], [1, 2]⟩ := by simpa [S0] using hs
  exact ⟨by decide, fun k hk => by
    rcases List.mem_cons.1 hk with rfl | hk
    · exact i64_small (by decide) (by decide)
    · rw [List.mem_singleton] at hk
      subst hk
      exact i64_small (by decide) (by decide)⟩
theorem box_cells {w : World} {b : Nat} {v0 v1 v2 v3 v4 : Value} {t : TypeId} (h : w.heap[b]? = some (.cells #[v0, v1, v2, v3, v4] t (0, 0))) :
    w.cell? ⟨b, 0, none⟩ = some v0 ∧ w.cell? ⟨b, 1, none⟩ = some v1 ∧ w.cell? ⟨b, 2, none⟩ = some v2 ∧ w.cell? ⟨b, 3, none⟩ = some v3 ∧ w.cell? ⟨b, 4, none⟩ = some v4 ∧ b < w.heap.size :=
  ⟨cell_of_heap h rfl, cell_of_heap h rfl, cell_of_heap h rfl, cell_of_heap h rfl, cell_of_heap h rfl, lt_of_block h⟩
theorem nms_at {w : World} {g k : Nat} {l : List Str} (h : NmsAt w (some ⟨g, 0, none⟩) l) (hg : g = k) : NmsAt w (some ⟨k, 0, none⟩) l := hg ▸ h
theorem nms_two (w : World) (o : Obj) (a b : UInt8) (e : TypeId) : NmsAt ((w.alloc o).alloc (.cells #[.string ⟨#[a]⟩, .string ⟨#[b]⟩] e)) (some ⟨w.heap.size + 1, 0, none⟩) [[a], [b]] := nms_at (nms_new (w.alloc o) [[a], [b]] e) (by simp)
theorem nms_one (w : World) (a : UInt8) (e : TypeId) : NmsAt (w.alloc (.cells #[.string ⟨#[a]⟩] e)) (some ⟨w.heap.size, 0, none⟩) [[a]] := nms_new w [[a]] e
theorem q1_in {w : World} {g : Nat} {T : Option Addr} {c : Nat} (hn : NmsAt w (some ⟨g, 0, none⟩) [[120]]) (hT : TrmsAt w T ([[120], [120]].map trmOf)) (hc : 2 ≤ c) :
    QryIn ((w.alloc (.cells #[.bool false, .string ⟨#[114]⟩, .slice T 2 c] 51)).alloc (.cells #[.slice (some ⟨w.heap.size, 0, none⟩) 1 1, .slice none 0 0] 46)) q1 (some ⟨g, 0, none⟩) (some ⟨w.heap.size + 1, 0, none⟩) none 1 1 0 := by
  have hb := below_two w (.cells #[.bool false, .string ⟨#[114]⟩, .slice T 2 c] 51) (.cells #[.slice (some ⟨w.heap.size, 0, none⟩) 1 1, .slice none 0 0] 46)
  have h0 : ((w.alloc (.cells #[.bool false, .string ⟨#[114]⟩, .slice T 2 c] 51)).alloc (.cells #[.slice (some ⟨w.heap.size, 0, none⟩) 1 1, .slice none 0 0] 46)).heap[w.heap.size]? = some (.cells #[.bool false, .string ⟨#[114]⟩, .slice T 2 c] 51 (0, 0)) := by
    rw [heap_alloc_old _ _ (by simp)]; exact heap_alloc_new w _
  have h1 : ((w.alloc (.cells #[.bool false, .string ⟨#[114]⟩, .slice T 2 c] 51)).alloc (.cells #[.slice (some ⟨w.heap.size, 0, none⟩) 1 1, .slice none 0 0] 46)).heap[w.heap.size + 1]? = some (.cells #[.slice (some ⟨w.heap.size, 0, none⟩) 1 1, .slice none 0 0] 46 (0, 0)) := heap_new' (by simp)
  refine ⟨hn.below hb, fun _ => ⟨_, _, rfl, fun i hi => ?_⟩, KysAt.nil, by decide, by decide, by decide, by decide, by decide, by decide⟩
  have hj : i < 1 := hi
  match i, hj with
  | 0, _ =>
    refine ⟨_, 1, none, 0, cell_of_heap h1 rfl, cell_of_heap h1 rfl, fun _ => ⟨_, _, rfl, fun i hi => ?_⟩, CndsAt.nil, (by decide : 1 ≤ 1), (by decide : 0 ≤ 0), (by decide : 1 ≤ 9223372036854775807), (by decide : 0 ≤ 9223372036854775807)⟩
    have hj : i < 1 := hi
    match i, hj with
    | 0, _ => exact ⟨T, c, cell_of_heap h0 rfl, cell_of_heap h0 rfl, cell_of_heap h0 rfl, hT.below hb, hc, (by decide : 2 ≤ 9223372036854775807)⟩
theorem same_in (w : World) : KdsAt (((w.alloc (.cells #[.int .i64 1] 3)).alloc (.cells #[.string ⟨#[120]⟩, .int .i64 1, .string ⟨#[121]⟩, .int .i64 2] 66)).alloc (.cells #[.slice (some ⟨w.heap.size + 1, 0, none⟩) 2 2] 63)) (some ⟨w.heap.size, 0, none⟩) [1]
    ∧ VrssAt (((w.alloc (.cells #[.int .i64 1] 3)).alloc (.cells #[.string ⟨#[120]⟩, .int .i64 1, .string ⟨#[121]⟩, .int .i64 2] 66)).alloc (.cells #[.slice (some ⟨w.heap.size + 1, 0, none⟩) 2 2] 63)) (some ⟨w.heap.size + 1 + 1, 0, none⟩) [[([120], 1), ([121], 2)]]
    ∧ Below w.heap.size w (((w.alloc (.cells #[.int .i64 1] 3)).alloc (.cells #[.string ⟨#[120]⟩, .int .i64 1, .string ⟨#[121]⟩, .int .i64 2] 66)).alloc (.cells #[.slice (some ⟨w.heap.size + 1, 0, none⟩) 2 2] 63)) := by
  have h0 : (((w.alloc (.cells #[.int .i64 1] 3)).alloc (.cells #[.string ⟨#[120]⟩, .int .i64 1, .string ⟨#[121]⟩, .int .i64 2] 66)).alloc (.cells #[.slice (some ⟨w.heap.size + 1, 0, none⟩) 2 2] 63)).heap[w.heap.size]? = some (.cells #[.int .i64 1] 3 (0, 0)) := by
    rw [heap_alloc_old _ _ (by simp <;> omega), heap_alloc_old _ _ (by simp <;> omega)]; exact heap_new' rfl
  have h1 : (((w.alloc (.cells #[.int .i64 1] 3)).alloc (.cells #[.string ⟨#[120]⟩, .int .i64 1, .string ⟨#[121]⟩, .int .i64 2] 66)).alloc (.cells #[.slice (some ⟨w.heap.size + 1, 0, none⟩) 2 2] 63)).heap[w.heap.size + 1]? = some (.cells #[.string ⟨#[120]⟩, .int .i64 1, .string ⟨#[121]⟩, .int .i64 2] 66 (0, 0)) := by
    rw [heap_alloc_old _ _ (by simp <;> omega)]; exact heap_new' (by simp)
  have h2 : (((w.alloc (.cells #[.int .i64 1] 3)).alloc (.cells #[.string ⟨#[120]⟩, .int .i64 1, .string ⟨#[121]⟩, .int .i64 2] 66)).alloc (.cells #[.slice (some ⟨w.heap.size + 1, 0, none⟩) 2 2] 63)).heap[w.heap.size + 1 + 1]? = some (.cells #[.slice (some ⟨w.heap.size + 1, 0, none⟩) 2 2] 63 (0, 0)) := heap_new' (by simp)
  refine ⟨fun _ => ⟨_, _, rfl, fun i hi => ?_⟩, fun _ => ⟨_, _, rfl, fun i hi => ?_⟩, below_three w _ _ _⟩
  · have hj : i < 1 := hi
    match i, hj with
    | 0, _ => exact cell_of_heap h0 rfl
  · have hj : i < 1 := hi
    match i, hj with
    | 0, _ =>
      refine ⟨_, 2, cell_of_heap h2 rfl, fun _ => ⟨_, _, rfl, fun i hi => ?_⟩, (by decide : 2 ≤ 2)⟩
      have hj : i < 2 := hi
      match i, hj with
      | 0, _ => exact ⟨cell_of_heap h1 rfl, cell_of_heap h1 rfl⟩
      | 1, _ => exact ⟨cell_of_heap h1 rfl, cell_of_heap h1 rfl⟩
theorem rul_at {w : World} {R : Nat} (h : RulsAt w (some ⟨R, 0, none⟩) [rul0]) : ∃ T c T' c', w.cell? ⟨R, 0, none⟩ = some (.slice T 2 c) ∧ w.cell? ⟨R, 1, none⟩ = some (.slice T' 1 c') ∧ AtmsAt w T rul0.atoms ∧ CndsAt w T' rul0.conds ∧ R < w.heap.size := by
  obtain ⟨b, o, e, hc⟩ := h (by decide)
  injection e with e
  injection e with e1 e2 _
  subst e1 e2
  obtain ⟨T, c, T', c', h0, h1, h2, h3, _⟩ := hc 0 (by decide)
  exact ⟨T, c, T', c', h0, h1, h2, h3, cell_lt h0⟩
end Go.Proofs.Ytgeapgbebbapmaa
