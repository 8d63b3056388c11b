/-
  WALKS: slices.swapRangeCmpFunc, rotateCmpFunc at rows: a world of the sort's.
-/
import Derived.Test.YtaghaigckgckpaaDoorSrP
import Derived.Test.YtaghaigckgckpaaDoorOfs
import Derived.Test.YtaghaigckgckpaaDoorFew
import Derived.Deep.LoopGhost
namespace Go.Proofs.YtaghaigckgckpaaDoor
open Go.RowKit

/-- A world of the sort's: the row g holds the headers of l; nothing else has turned. -/
def SoW (w0 : World) (B g n c : Nat) (l : List El) (w : World) : Prop := w.ownsRow B 35 1 (.slice (some ⟨g, 0, none⟩) n c) n (l.map El.val) ∧ w0.grownBy w (some g) ∧ g < w0.heap.size
theorem grown_more {w0 w w' : World} {x : Option Nat} (h : w0.grownBy w x) (hb : Below w.heap.size w w') : w0.grownBy w' x :=
  ⟨hb.os.trans h.os, hb.tape.trans h.tape, hb.output.trans h.output, Nat.le_trans h.size hb.size, fun k hk hne => (hb.block k (Nat.lt_of_lt_of_le hk h.size)).trans (h.block k hk hne)⟩
theorem SoW.more {w0 w w' : World} {B g n c : Nat} {l : List El} (h : SoW w0 B g n c l w) (hb : Below w.heap.size w w') : SoW w0 B g n c l w' := ⟨own_below h.1 hb, grown_more h.2.1 hb, h.2.2⟩
theorem SoW.len {w0 w : World} {B g n c : Nat} {l : List El} (h : SoW w0 B g n c l w) : l.length = n := by have := h.1.1; simpa using this
theorem SoW.cell {w0 w : World} {B g n c : Nat} {l : List El} (h : SoW w0 B g n c l w) {k : Nat} (hk : k < n) : w.cell? ⟨g, k, none⟩ = some (nth El.dum l k).val := by
  have hl := h.len
  rw [h.1.cellAt _ (by simp; omega), nth_at (by omega)]
  simp [show k < l.length by omega]
theorem SoW.frozen {w0 w : World} {B g n c : Nat} {l : List El} (h : SoW w0 B g n c l w) (k : Nat) : w.frozen? ⟨g, k, none⟩ = false := h.1.frozenAt k
theorem SoW.swap {w0 w : World} {B g n c : Nat} {l : List El} (h : SoW w0 B g n c l w) (i j : Nat) :
    SoW w0 B g n c (swp El.dum l i j) ((w.setCell ⟨g, i, none⟩ (nth El.dum l j).val).setCell ⟨g, j, none⟩ (nth El.dum l i).val) := by
  refine ⟨?_, grown_set (grown_set h.2.1 _ _) _ _, h.2.2⟩
  have := ((h.1.stored i (nth El.dum l j).val).1.stored j (nth El.dum l i).val).1
  unfold swp
  rw [List.map_set, List.map_set]
  exact this
theorem SoW.second {w0 w : World} {B g n c : Nat} {l : List El} (h : SoW w0 B g n c l w) (i j : Nat) (hi : i < n) (hj : j < n) (v : Value) : ∃ u, (w.setCell ⟨g, i, none⟩ v).cell? ⟨g, j, none⟩ = some u := by
  by_cases e : i = j
  · subst e; exact ⟨v, World.cell?_setCell_same _ _ _ (h.cell hi)⟩
  · exact ⟨_, (World.cell?_setCell_other _ _ _ _ (by intro e'; simp only [Addr.mk.injEq] at e'; omega)).trans (h.cell hj)⟩
theorem SoW.drew {w0 w : World} {B g n c : Nat} {l : List El} (h : SoW w0 B g n c l w) : SoW w0 B g n c l w.drew := h.more (below_drewN (Below.refl _ _) 1)

theorem swr_step {α : Type} {f g : Nat → α} {a b i k t : Nat} (h : ∀ t, g t = swrF f a b i t) (hk : i < k) (hab : a + k ≤ b) : (if t = a + i then g (b + i) else if t = b + i then g (a + i) else g t) = swrF f a b (i + 1) t := by
  rw [h, h, h]
  unfold swrF
  repeat' split
  all_goals first | rfl | (exfalso; omega) | (congr 1; omega)

set_option maxRecDepth 100000 in
set_option maxHeartbeats 2000000 in
theorem swap_range (w0 : World) (B g n c a b k : Nat) (l : List El) (F : Value) (w : World) (h : SoW w0 B g n c l w) (hn : n ≤ 100000) (hab : a + k ≤ b) (hb : b + k ≤ n) :
    Calls Tryd.prog 58 #[.slice (some ⟨g, 0, none⟩) n c, .int .i64 a, .int .i64 b, .int .i64 k, F] w fun e w' => e = .returned (.tuple #[]) ∧ ∃ l', SoW w0 B g n c l' w' ∧ Pm El.dum a (b + k) l l' ∧ ∀ t, nth El.dum l' t = swrF (nth El.dum l) a b k t := by
  have H := hid h
  clear h
  go_enter Tryd.func58, Tryd.ntmps58
  go_wp2
  go_loopw [10] (fun i wr => ∃ (j : Nat) (lj : List El), j ≤ k ∧ i = .int .i64 j ∧ Hid (SoW w0 B g n c lj wr) ∧ Hid (Pm El.dum a (b + k) l lj) ∧ Hid (∀ t, nth El.dum lj t = swrF (nth El.dum l) a b j t)) (fun i _ => k - (intOf i).toNat)
  case atStart => exact ⟨0, l, by omega, rfl, H, hid (Pm.refl _ _ _ _), hid (fun t => by unfold swrF; rw [if_neg (by omega), if_neg (by omega)])⟩
  case round =>
    obtain ⟨j, lj, hj, rfl, HS, HP, HT⟩ := hrel
    clear H
    by_cases hlt : j < k
    · have hl := HS.out.len
      obtain ⟨p, hp⟩ : ∃ p, p = a + j := ⟨_, rfl⟩
      obtain ⟨q, hq⟩ : ∃ q, q = b + j := ⟨_, rfl⟩
      have ep : ((a : Int) + (j : Int)) = (p : Int) := by omega
      have eq : ((b : Int) + (j : Int)) = (q : Int) := by omega
      have rp : IntKind.i64.wrap ((a : Int) + (j : Int)) = (p : Int) := by rw [IntKind.wrap_i64]; omega
      have rq : IntKind.i64.wrap ((b : Int) + (j : Int)) = (q : Int) := by rw [IntKind.wrap_i64]; omega
      have cp := HS.out.cell (k := p) (by omega)
      have cq := HS.out.cell (k := q) (by omega)
      have fp := HS.out.frozen p
      have fq := HS.out.frozen q
      have S2 := hid (HS.out.swap p q).drew
      have P2 := hid (HP.out.trans (Pm.swp (i := p) (j := q) (by omega) (by omega) (by omega) (by omega) (by omega) (by omega)))
      have T2 : Hid (∀ t, nth El.dum (swp El.dum lj p q) t = swrF (nth El.dum l) a b (j + 1) t) := hid (fun t => by
        rw [nth_swp (by omega) (by omega), hp, hq]; exact swr_step HT.out hlt hab)
      obtain ⟨u, cu⟩ := HS.out.second p q (by omega) (by omega) (nth El.dum lj q).val
      clear HS HP HT hl
      generalize nth El.dum lj p = x at *
      generalize nth El.dum lj q = y at *
      simp only [El.val] at cp cq cu S2
      have Hp := hid hp
      have Hq := hid hq
      have hpn : (p : Int) < (n : Int) := by omega
      have hqn : (q : Int) < (n : Int) := by omega
      clear hp hq
      go_wp2
      go_big_region
      clear cp cq cu fp fq
      generalize ((wr.setCell ⟨g, p, none⟩ (.slice y.A y.r.length y.c)).setCell ⟨g, q, none⟩ (.slice x.A x.r.length x.c)).drew = w3 at S2 ⊢
      go_wp2
      go_roundw
      case rel => exact ⟨j + 1, _, by omega, by go_num, S2, P2, T2⟩
      case measure => simp [intOf]; omega
    · have ej : j = k := by omega
      subst ej
      go_wp2
      go_end0
      exact ⟨rfl, lj, HS.out, HP.out, HT.out⟩
end Go.Proofs.YtaghaigckgckpaaDoor
