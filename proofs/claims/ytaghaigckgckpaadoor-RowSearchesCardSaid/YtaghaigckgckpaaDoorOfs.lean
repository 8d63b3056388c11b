/-
  WALK: ordinallaw02.Of; worlds in which one row has turned (parts of Ref2, for seats without Project).
-/
import Derived.Test.YtaghaigckgckpaaDoorRefCmp
import Derived.Test.YtaghaigckgckpaaDoorProj
import Derived.Test.YtaghaigckgckpaaDoorKit2
namespace Go.Proofs.YtaghaigckgckpaaDoor
open Go.RowKit

theorem infoR : (Tryd.prog.info? 59).map (fun i => (i.zero, i.size, i.bytes)) = some (some (.agg #[.int .i64 0, .int .i64 0, .string ⟨#[]⟩]), 3, 32) := by kernel_rfl

theorem flat_take_succ {r : List V} {k : Nat} (h : k < r.length) : flat (r.take (k + 1)) = flat (r.take k) ++ [.int .i64 r[k].k, .int .i64 r[k].n, .string r[k].s] := by
  rw [List.take_succ_eq_append_getElem h, flat_append]; rfl

theorem own_row_new {w : World} {B : Nat} {e : TypeId} {v : Value} {r : List V} (h : w.ownsRow B e 3 v r.length (flat r)) : ∃ A c, v = .slice A r.length c ∧ RowAt w A r ∧ (∀ ad, A = some ad → B ≤ ad.block) ∧ r.length ≤ c := by
  have h' := h
  obtain ⟨A, c, rfl, hr⟩ := own_row h
  refine ⟨A, c, rfl, hr, fun ad he => ?_, ?_⟩
  · subst he
    exact (h'.lt ad.block rfl).1
  · rcases h'.2 with ⟨he, h0⟩ | ⟨g, cap, cur, he, hB, hh, hn, _⟩
    · omega
    · injection he with _ _ he
      omega

/-- A call that returns a row in NEW memory. -/
def RetNew (w : World) (r : List V) (e : Ending) (w' : World) : Prop := ∃ A c, e = .returned (.slice A r.length c) ∧ RowAt w' A r ∧ (∀ ad, A = some ad → w.heap.size ≤ ad.block) ∧ r.length ≤ c ∧ Below w.heap.size w w'

set_option maxRecDepth 100000 in
set_option maxHeartbeats 1000000 in
theorem law_of_new (A : Option Addr) (c : Nat) (r : List V) (w : World) (hr : RowAt w A r) (hl : r.length ≤ 100000) :
    Calls Tryd.prog 15 #[.slice A r.length c] w (RetNew w r) := by
  obtain ⟨i0, hi, hz0, hz1, hz2⟩ := info_parts infoR
  go_enter Tryd.func15, Tryd.ntmps15
  go_wp2
  go_loopw [3, 8] (fun v i wr => ∃ k : Nat, k ≤ r.length ∧ i = .int .i64 k ∧ wr.ownsRow w.heap.size 59 3 v k (flat (r.take k)) ∧ Below w.heap.size w wr) (fun _ i _ => r.length - (intOf i).toNat)
  case atStart => exact ⟨0, by omega, rfl, World.ownsRow_nil _ _ _ _, Below.refl _ _⟩
  case round =>
    obtain ⟨k, hk, rfl, hown, hbel⟩ := hrel
    have hsz := hbel.size
    by_cases hlt : k < r.length
    · obtain ⟨b, o, rfl, hcell⟩ := hr (by omega)
      obtain ⟨c0, c1, c2⟩ := hcell k hlt
      have hb : b < w.heap.size := cell_lt c0
      rw [← hbel.cell (p := ⟨b, o + k * 3, none⟩) hb] at c0
      rw [← hbel.cell (p := ⟨b, o + k * 3 + 1, none⟩) hb] at c1
      rw [← hbel.cell (p := ⟨b, o + k * 3 + 2, none⟩) hb] at c2
      have hs := hid (flat_take_succ hlt)
      generalize r[k] = v at *
      clear hcell hr
      go_wp2_with (at_builtin; refine wpList_append_new2 Tryd.underlying39 hi hz0 hz1 hz2 rfl (by decide) (by decide) rfl rfl rfl (hown.alloc _) rfl (by simp) rfl rfl (by omega) (by simp; omega) ?_; intro v2 w2 hown2 hg2)
      go_roundw
      case rel => exact ⟨k + 1, by omega, by go_num, by rw [hs.out]; exact hown2, (hbel.alloc hsz _).trans (grown_below (hown.alloc _) hg2 (by simp; omega))⟩
      case measure => simp [intOf]; omega
    · have e : r.take k = r := List.take_of_length_le (by omega)
      have ek : k = r.length := by omega
      rw [e] at hown
      have hown' : wr.ownsRow w.heap.size 59 3 u3 r.length (flat r) := by rw [← ek]; exact hown
      obtain ⟨A', c', rfl, hrow, hnew, hcap⟩ := own_row_new hown'
      have HN := hid hnew
      have HC := hid hcap
      clear hown hown' e ek hnew hcap
      go_wp2
      go_ret
      exact ⟨A', c', rfl, hrow, HN.out, HC.out, hbel⟩

theorem law_of (A : Option Addr) (c : Nat) (r : List V) (w : World) (hr : RowAt w A r) (hl : r.length ≤ 100000) :
    Calls Tryd.prog 15 #[.slice A r.length c] w (RetRow w r) :=
  (law_of_new A c r w hr hl).mono fun _ _ ⟨A', c', h1, h2, _, _, h3⟩ => ⟨A', c', h1, h2, h3⟩

/-- What the reference's Project returns. -/
def RetRefProj (w : World) (r : List V) (cols : List Int) (e : Ending) (w' : World) : Prop :=
  (projOk r.length cols = true → ∃ A c, e = .returned (.tuple #[.slice A cols.length c, .int .i64 0]) ∧ RowAt w' A (projV r cols)) ∧
  (projOk r.length cols = false → e = .returned (.tuple #[.slice none 0 0, .int .i64 3])) ∧ Below w.heap.size w w'

theorem RowAt.grown {w w' : World} {A : Option Addr} {r : List V} {g : Nat} (h : RowAt w A r) (hg : w.grownBy w' (some g)) (hA : ∀ ad, A = some ad → ad.block ≠ g) : RowAt w' A r := by
  intro hl
  obtain ⟨b, o, e, hc⟩ := h hl
  have hne : some b ≠ some g := fun he => hA _ e (by injection he)
  refine ⟨b, o, e, fun i hi => ?_⟩
  obtain ⟨h0, h1, h2⟩ := hc i hi
  have hb : w'.heap[b]? = w.heap[b]? := hg.block b (cell_lt h0) hne
  exact ⟨(World.cell?_of_block (a := ⟨b, _, none⟩) hb).trans h0, (World.cell?_of_block (a := ⟨b, _, none⟩) hb).trans h1, (World.cell?_of_block (a := ⟨b, _, none⟩) hb).trans h2⟩

theorem grown_refl (w : World) (row : Option Nat) : w.grownBy w row := ⟨rfl, rfl, rfl, Nat.le_refl _, fun _ _ _ => rfl⟩
theorem grown_set {a w : World} {g : Nat} (h : a.grownBy w (some g)) (j : Nat) (u : Value) : a.grownBy (w.setCell ⟨g, j, none⟩ u) (some g) :=
  ⟨h.os, h.tape, h.output, by simpa [World.setCell] using h.size, fun i hi hne => (Below.heap_setCell w ⟨g, j, none⟩ u i (fun e => hne (by rw [e]))).trans (h.block i hi hne)⟩
theorem below_of_grown {a w : World} {g B : Nat} (h : a.grownBy w (some g)) (hB : B ≤ g) (hB' : B ≤ a.heap.size) : Below B a w :=
  ⟨h.os, h.tape, h.output, h.size, fun k hk => h.block k (by omega) (fun e => by injection e; omega)⟩

end Go.Proofs.YtaghaigckgckpaaDoor
