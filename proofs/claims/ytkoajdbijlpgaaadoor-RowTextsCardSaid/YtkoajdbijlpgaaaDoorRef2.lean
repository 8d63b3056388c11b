/-
  WALKS: the law's Of, the reference's Project.
-/
import Derived.Test.YtkoajdbijlpgaaaDoorRefCmp
import Derived.Test.YtkoajdbijlpgaaaDoorProj
import Derived.Test.YtkoajdbijlpgaaaDoorKit2
namespace Go.Proofs.YtkoajdbijlpgaaaDoor
open Go.RowKit

theorem infoR : (Tryd.prog.info? 66).map (fun i => (i.zero, i.size, i.bytes)) = some (some (.agg #[.int .i64 0, .int .i64 0, .string ⟨#[]⟩]), 3, 32) := by kernel_rfl

theorem flat_take_succ {r : List V} {k : Nat} (h : k < r.length) : flat (r.take (k + 1)) = flat (r.take k) ++ [.int .i64 r[k].k, .int .i64 r[k].n, .string r[k].s] := by
  rw [List.take_succ_eq_append_getElem h, flat_append]; rfl

theorem own_row_new {w : World} {B : Nat} {e : TypeId} {v : Value} {r : List V} (h : w.ownsRow B e 3 v r.length (flat r)) : ∃ A c, v = .slice A r.length c ∧ RowAt w A r ∧ (∀ ad, A = some ad → B ≤ ad.block) ∧ r.length ≤ c := by
  have h' := h
  obtain ⟨A, c, rfl, hr⟩ := own_row h
  refine ⟨A, c, rfl, hr, fun ad he => ?_, ?_⟩
  · subst he
    exact (h'.lt ad.block rfl).1
  · rcases h'.2 with ⟨he, h0⟩ | ⟨g, cap, cur, he, hB, hh, hn, _⟩
    · omega
    · injection he with _ _ he
      omega

/-- A call that returns a row in NEW memory. -/
def RetNew (w : World) (r : List V) (e : Ending) (w' : World) : Prop := ∃ A c, e = .returned (.slice A r.length c) ∧ RowAt w' A r ∧ (∀ ad, A = some ad → w.heap.size ≤ ad.block) ∧ r.length ≤ c ∧ Below w.heap.size w w'

set_option maxRecDepth 100000 in
set_option maxHeartbeats 1000000 in
theorem law_of_new (A : Option Addr) (c : Nat) (r : List V) (w : World) (hr : RowAt w A r) (hl : r.length ≤ 100000) :
    Calls Tryd.prog 22 #[.slice A r.length c] w (RetNew w r) := by
  obtain ⟨i0, hi, hz0, hz1, hz2⟩ := info_parts infoR
  go_enter Tryd.func22, Tryd.ntmps22
  go_wp2
  go_loopw [3, 8] (fun v i wr => ∃ k : Nat, k ≤ r.length ∧ i = .int .i64 k ∧ wr.ownsRow w.heap.size 66 3 v k (flat (r.take k)) ∧ Below w.heap.size w wr) (fun _ i _ => r.length - (intOf i).toNat)
  case atStart => exact ⟨0, by omega, rfl, World.ownsRow_nil _ _ _ _, Below.refl _ _⟩
  case round =>
    obtain ⟨k, hk, rfl, hown, hbel⟩ := hrel
    have hsz := hbel.size
    by_cases hlt : k < r.length
    · obtain ⟨b, o, rfl, hcell⟩ := hr (by omega)
      obtain ⟨c0, c1, c2⟩ := hcell k hlt
      have hb : b < w.heap.size := cell_lt c0
      rw [← hbel.cell (p := ⟨b, o + k * 3, none⟩) hb] at c0
      rw [← hbel.cell (p := ⟨b, o + k * 3 + 1, none⟩) hb] at c1
      rw [← hbel.cell (p := ⟨b, o + k * 3 + 2, none⟩) hb] at c2
      have hs := hid (flat_take_succ hlt)
      generalize r[k] = v at *
      clear hcell hr
      go_wp2_with (at_builtin; refine wpList_append_new2 Tryd.underlying32 hi hz0 hz1 hz2 rfl (by decide) (by decide) rfl rfl rfl (hown.alloc _) rfl (by simp) rfl rfl (by omega) (by simp; omega) ?_; intro v2 w2 hown2 hg2)
      go_roundw
      case rel => exact ⟨k + 1, by omega, by go_num, by rw [hs.out]; exact hown2, (hbel.alloc hsz _).trans (grown_below (hown.alloc _) hg2 (by simp; omega))⟩
      case measure => simp [intOf]; omega
    · have e : r.take k = r := List.take_of_length_le (by omega)
      have ek : k = r.length := by omega
      rw [e] at hown
      have hown' : wr.ownsRow w.heap.size 66 3 u3 r.length (flat r) := by rw [← ek]; exact hown
      obtain ⟨A', c', rfl, hrow, hnew, hcap⟩ := own_row_new hown'
      have HN := hid hnew
      have HC := hid hcap
      clear hown hown' e ek hnew hcap
      go_wp2
      go_ret
      exact ⟨A', c', rfl, hrow, HN.out, HC.out, hbel⟩

theorem law_of (A : Option Addr) (c : Nat) (r : List V) (w : World) (hr : RowAt w A r) (hl : r.length ≤ 100000) :
    Calls Tryd.prog 22 #[.slice A r.length c] w (RetRow w r) :=
  (law_of_new A c r w hr hl).mono fun _ _ ⟨A', c', h1, h2, _, _, h3⟩ => ⟨A', c', h1, h2, h3⟩

/-- What the reference's Project returns. -/
def RetRefProj (w : World) (r : List V) (cols : List Int) (e : Ending) (w' : World) : Prop :=
  (projOk r.length cols = true → ∃ A c, e = .returned (.tuple #[.slice A cols.length c, .int .i64 0]) ∧ RowAt w' A (projV r cols)) ∧
  (projOk r.length cols = false → e = .returned (.tuple #[.slice none 0 0, .int .i64 3])) ∧ Below w.heap.size w w'

theorem projV_length (r : List V) (cols : List Int) : (projV r cols).length = cols.length := by simp [projV]

set_option maxRecDepth 100000 in
set_option maxHeartbeats 1000000 in
theorem ref_project (A A' : Option Addr) (c c' : Nat) (r : List V) (cols : List Int) (w : World) (hr : RowAt w A r) (hcs : IntsAt w A' cols) (hl : r.length ≤ 100000) (hl' : cols.length ≤ 100000) :
    Calls Tryd.prog 21 #[.slice A r.length c, .slice A' cols.length c'] w (RetRefProj w r cols) := by
  obtain ⟨i0, hi, hz0, hz1, hz2⟩ := info_parts infoR
  go_enter Tryd.func21, Tryd.ntmps21
  go_wp2
  go_loopw [6, 7] (fun v i wr => ∃ k : Nat, k ≤ cols.length ∧ i = .int .i64 k ∧ Hid (projOk r.length (cols.take k) = true) ∧ wr.ownsRow w.heap.size 66 3 v k (flat (projV r (cols.take k))) ∧ Below w.heap.size w wr) (fun _ i _ => cols.length - (intOf i).toNat)
  case atStart => exact ⟨0, by omega, rfl, hid rfl, World.ownsRow_nil _ _ _ _, Below.refl _ _⟩
  case round =>
    obtain ⟨k, hk, rfl, HK, hown, hbel⟩ := hrel
    have hsz := hbel.size
    by_cases hlt : k < cols.length
    · obtain ⟨b, o, rfl, hcell⟩ := hcs (by omega)
      have c0 := hcell k hlt
      rw [← hbel.cell (p := ⟨b, o + k, none⟩) (cell_lt c0)] at c0
      have hs : projOk r.length (cols.take (k + 1)) = (projOk r.length (cols.take k) && colOk r.length cols[k]) := by
        unfold projOk; rw [List.take_succ_eq_append_getElem hlt, List.all_append]; simp
      have hbad : colOk r.length cols[k] = false → projOk r.length cols = false := fun h => by
        unfold projOk; rw [List.all_eq_false]; exact ⟨_, List.getElem_mem hlt, by simp [h]⟩
      rw [HK.out] at hs
      have hap : projV r (cols.take (k + 1)) = projV r (cols.take k) ++ [r.getD cols[k].toNat V.zero] := by
        unfold projV; rw [List.take_succ_eq_append_getElem hlt, List.map_append]; rfl
      generalize cols[k] = n at *
      have HS := hid hs
      have HB := hid hbad
      have HP := hid hap
      clear hs hbad hcs hap
      by_cases h1 : n < 0
      · have hB : Hid (projOk r.length cols = false) := hid (HB.out (by simp [colOk]; omega))
        clear HS HB HK hcell
        go_wp2
        go_ret2
        exact ⟨fun h => absurd (h.symm.trans hB.out) (by simp), fun _ => rfl, hbel⟩
      · have d1 : decide ((n : Int) < 0) = false := by simpa using h1
        by_cases h2 : n < r.length
        · have hS : Hid (projOk r.length (cols.take (k + 1)) = true) := hid (HS.out.trans (by simp [colOk]; omega))
          obtain ⟨q, hq⟩ := Int.eq_ofNat_of_zero_le (show 0 ≤ n by omega)
          subst hq
          have hql : q < r.length := by omega
          obtain ⟨b', o', rfl, hcell'⟩ := hr (by omega)
          obtain ⟨e0, e1, e2⟩ := hcell' q hql
          rw [← hbel.cell (cell_lt e0)] at e0
          rw [← hbel.cell (cell_lt e1)] at e1
          rw [← hbel.cell (cell_lt e2)] at e2
          have hg : r.getD (q : Int).toNat V.zero = r[q] := by simp [List.getD, hql]
          rw [hg] at HP
          generalize r[q] = v at *
          have HP2 : Hid (flat (projV r (cols.take (k + 1))) = flat (projV r (cols.take k)) ++ [.int .i64 v.k, .int .i64 v.n, .string v.s]) := hid (by rw [HP.out, flat_append]; rfl)
          have d2 : decide ((r.length : Int) ≤ q) = false := by simp; omega
          clear HS HB HK hcell hcell' hr hg HP h2 h1
          go_wp2_with (at_builtin; refine wpList_append_new Tryd.underlying32 hi hz0 hz1 hz2 rfl (by decide) (by decide) rfl rfl rfl hown rfl rfl rfl (by omega) hsz ?_; intro v2 w2 hown2 hg2)
          go_roundw
          case rel => exact ⟨k + 1, by omega, by go_num, hS, by rw [HP2.out]; exact hown2, hbel.trans (grown_below hown hg2 hsz)⟩
          case measure => simp [intOf]; omega
        · have hB : Hid (projOk r.length cols = false) := hid (HB.out (by simp [colOk]; omega))
          clear HS HB HK hcell
          go_wp2
          go_ret2
          exact ⟨fun h => absurd (h.symm.trans hB.out) (by simp), fun _ => rfl, hbel⟩
    · have e : cols.take k = cols := List.take_of_length_le (by omega)
      have ek : k = cols.length := by omega
      rw [e] at hown HK
      have hown' : wr.ownsRow w.heap.size 66 3 u6 (projV r cols).length (flat (projV r cols)) := by rw [projV_length, ← ek]; exact hown
      obtain ⟨A', c', rfl, hrow⟩ := own_row hown'
      clear hown hown' e ek
      go_wp2
      go_ret2
      exact ⟨fun _ => ⟨A', c', congrArg (fun n => Ending.returned (.tuple #[.slice A' n c', .int .i64 0])) (projV_length r cols), hrow⟩, fun h => absurd (HK.out.symm.trans h) (by simp), hbel⟩
theorem RowAt.grown {w w' : World} {A : Option Addr} {r : List V} {g : Nat} (h : RowAt w A r) (hg : w.grownBy w' (some g)) (hA : ∀ ad, A = some ad → ad.block ≠ g) : RowAt w' A r := by
  intro hl
  obtain ⟨b, o, e, hc⟩ := h hl
  have hne : some b ≠ some g := fun he => hA _ e (by injection he)
  refine ⟨b, o, e, fun i hi => ?_⟩
  obtain ⟨h0, h1, h2⟩ := hc i hi
  have hb : w'.heap[b]? = w.heap[b]? := hg.block b (cell_lt h0) hne
  exact ⟨(World.cell?_of_block (a := ⟨b, _, none⟩) hb).trans h0, (World.cell?_of_block (a := ⟨b, _, none⟩) hb).trans h1, (World.cell?_of_block (a := ⟨b, _, none⟩) hb).trans h2⟩

theorem grown_refl (w : World) (row : Option Nat) : w.grownBy w row := ⟨rfl, rfl, rfl, Nat.le_refl _, fun _ _ _ => rfl⟩
theorem grown_set {a w : World} {g : Nat} (h : a.grownBy w (some g)) (j : Nat) (u : Value) : a.grownBy (w.setCell ⟨g, j, none⟩ u) (some g) :=
  ⟨h.os, h.tape, h.output, by simpa [World.setCell] using h.size, fun i hi hne => (Below.heap_setCell w ⟨g, j, none⟩ u i (fun e => hne (by rw [e]))).trans (h.block i hi hne)⟩
theorem below_of_grown {a w : World} {g B : Nat} (h : a.grownBy w (some g)) (hB : B ≤ g) (hB' : B ≤ a.heap.size) : Below B a w :=
  ⟨h.os, h.tape, h.output, h.size, fun k hk => h.block k (by omega) (fun e => by injection e; omega)⟩

end Go.Proofs.YtkoajdbijlpgaaaDoor
