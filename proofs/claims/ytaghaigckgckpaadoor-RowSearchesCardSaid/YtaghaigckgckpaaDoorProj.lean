/-
  WALK: row.Project.
-/
import Derived.Test.YtaghaigckgckpaaDoorRow2
namespace Go.Proofs.YtaghaigckgckpaaDoor
open Go.RowKit

/-- Is a column one of the row's? -/
def colOk (n : Nat) (c : Int) : Bool := decide (0 ≤ c) && decide (c < n)
def projOk (n : Nat) (cols : List Int) : Bool := cols.all (colOk n)
def V.zero : V := ⟨0, 0, ⟨#[]⟩⟩
def projV (r : List V) (cols : List Int) : List V := cols.map fun c => r.getD c.toNat V.zero

/-- What row.Project returns. -/
def RetProj (w : World) (r : List V) (cols : List Int) (e : Ending) (w' : World) : Prop :=
  (projOk r.length cols = true → ∃ g c, e = .returned (.tuple #[.slice (some ⟨g, 0, none⟩) cols.length c, .int .i64 0]) ∧ w'.ownsRow w.heap.size 43 3 (.slice (some ⟨g, 0, none⟩) cols.length c) cols.length (flat (projV r cols))) ∧
  (projOk r.length cols = false → e = .returned (.tuple #[.slice none 0 0, .int .i64 3])) ∧ Below w.heap.size w w'

theorem own_store3 {w : World} {B g : Nat} {e : TypeId} {n cap : Nat} {xs : List Value} (h : w.ownsRow B e 3 (.slice (some ⟨g, 0, none⟩) n cap) n xs) (hB : B ≤ g) (j : Nat) (x y z : Value) :
    (((w.setCell ⟨g, j, none⟩ x).setCell ⟨g, j + 1, none⟩ y).setCell ⟨g, j + 2, none⟩ z).ownsRow B e 3 (.slice (some ⟨g, 0, none⟩) n cap) n (((xs.set j x).set (j + 1) y).set (j + 2) z) ∧
    Below B w (((w.setCell ⟨g, j, none⟩ x).setCell ⟨g, j + 1, none⟩ y).setCell ⟨g, j + 2, none⟩ z) :=
  ⟨(((h.stored j x).1.stored (j + 1) y).1.stored (j + 2) z).1,
   (((Below.refl _ _).setCell (p := ⟨g, j, none⟩) hB _).setCell (p := ⟨g, j + 1, none⟩) hB _).setCell (p := ⟨g, j + 2, none⟩) hB _⟩

theorem take_set3 {xs F : List Value} {m : Nat} (h : xs.take m = F) (hl : m + 3 ≤ xs.length) (x y z : Value) : (((xs.set m x).set (m + 1) y).set (m + 2) z).take (m + 3) = F ++ [x, y, z] := by
  subst h
  apply List.ext_getElem?
  intro i
  simp only [List.getElem?_take, List.getElem?_set, List.length_set]
  by_cases h0 : i < m
  · rw [List.getElem?_append_left (by simp; omega)]
    simp [h0, show i < m + 3 by omega, show m ≠ i by omega, show m + 1 ≠ i by omega, show m + 2 ≠ i by omega]
  · rw [List.getElem?_append_right (by simp; omega)]
    have hlt : (xs.take m).length = m := by simp; omega
    rw [hlt]
    by_cases h3 : i < m + 3
    · obtain e | e | e : i = m ∨ i = m + 1 ∨ i = m + 2 := by omega
      · subst e; simp; omega
      · subst e; simp; omega
      · subst e; simp; omega
    · rw [if_neg h3, List.getElem?_eq_none (by simp; omega)]

set_option maxRecDepth 100000 in
set_option maxHeartbeats 1000000 in
theorem row_project (A A' : Option Addr) (c c' : Nat) (r : List V) (cols : List Int) (w : World) (hr : RowAt w A r) (hcs : IntsAt w A' cols) (hl : r.length ≤ 100000) (hl' : cols.length ≤ 100000) :
    Calls Tryd.prog 16 #[.slice A r.length c, .slice A' cols.length c'] w (RetProj w r cols) := by
  obtain ⟨i0, hi, hz0, hz1, hz2⟩ := info_parts infoV
  go_enter Tryd.func16, Tryd.ntmps16
  go_wp2
  go_loop [11] (fun i => ∃ k : Nat, k ≤ cols.length ∧ i = .int .i64 k ∧ Hid (projOk r.length (cols.take k) = true)) (fun i => cols.length - (intOf i).toNat)
  case atStart => exact ⟨0, by omega, rfl, hid rfl⟩
  case round =>
    obtain ⟨k, hk, rfl, HK⟩ := hrel
    by_cases hlt : k < cols.length
    · obtain ⟨b, o, rfl, hcell⟩ := hcs (by omega)
      have c0 := hcell k hlt
      have hs : projOk r.length (cols.take (k + 1)) = (projOk r.length (cols.take k) && colOk r.length cols[k]) := by
        unfold projOk; rw [List.take_succ_eq_append_getElem hlt, List.all_append]; simp
      have hbad : colOk r.length cols[k] = false → projOk r.length cols = false := fun h => by
        unfold projOk; rw [List.all_eq_false]; exact ⟨_, List.getElem_mem hlt, by simp [h]⟩
      rw [HK.out] at hs
      generalize cols[k] = n at *
      have HS := hid hs
      have HB := hid hbad
      clear hs hbad hcs
      by_cases h1 : n < 0
      · have hB : Hid (projOk r.length cols = false) := hid (HB.out (by simp [colOk]; omega))
        clear HS HB HK hcell
        go_wp2
        go_ret2
        exact ⟨fun h => absurd (h.symm.trans hB.out) (by simp), fun _ => rfl, Below.refl _ _⟩
      · by_cases h2 : n < r.length
        · have hS : Hid (projOk r.length (cols.take (k + 1)) = true) := hid (HS.out.trans (by simp [colOk]; omega))
          clear HS HB HK hcell
          have d1 : decide ((n : Int) < 0) = false := by simpa using h1
          go_wp2
          go_round
          case rel => exact ⟨k + 1, by omega, by go_num, hS⟩
          case measure => simp [intOf]; omega
        · have hB : Hid (projOk r.length cols = false) := hid (HB.out (by simp [colOk]; omega))
          have d1 : decide ((n : Int) < 0) = false := by simpa using h1
          clear HS HB HK hcell
          go_wp2
          go_ret2
          exact ⟨fun h => absurd (h.symm.trans hB.out) (by simp), fun _ => rfl, Below.refl _ _⟩
    · have e : cols.take k = cols := List.take_of_length_le (by omega)
      rw [e] at HK
      clear e
      go_wp2_with (at_make; refine wpList_make_full _ rfl _ _ 35 rfl w.heap.size 43 i0 (.agg #[.int .i64 0, .int .i64 0, .string ⟨#[]⟩]) 3 Tryd.underlying35 hi hz0 hz1 _ _ _ _ cols.length rfl rfl rfl rfl (by rw [hz2]; omega) (by unfold maxLen; omega) (Nat.le_refl _) ?_; intro w1 hown1 hg1)
      have hb0 : Below w.heap.size w w1 := (Below.refl _ _).grown hg1 (Nat.le_refl _) (by simp)
      generalize hzs : (madeCells (Value.cells (.agg #[.int .i64 0, .int .i64 0, .string ⟨#[]⟩])) (cols.length * 3)).toList = zs at hown1
      clear hzs hg1
      have hall : ∀ n ∈ cols, 0 ≤ n ∧ n < r.length := fun n hn => by
        have := List.all_eq_true.1 HK.out n hn
        simpa [colOk] using this
      have HA := hid hall
      clear hall
      go_loopw [34] (fun i wr => ∃ (j : Nat) (xs : List Value), j ≤ cols.length ∧ i = .int .i64 j ∧ wr.ownsRow w.heap.size 43 3 (.slice (some ⟨w.heap.size, 0, none⟩) cols.length cols.length) cols.length xs ∧ Hid (xs.take (j * 3) = flat (projV r (cols.take j))) ∧ Below w.heap.size w wr) (fun i _ => cols.length - (intOf i).toNat)
      case atStart => exact ⟨0, zs, by omega, rfl, hown1, hid rfl, hb0⟩
      case round =>
        obtain ⟨j, xs, hj, rfl, hown, HX, hbel⟩ := hrel
        clear hown1 hb0
        by_cases hjt : j < cols.length
        · obtain ⟨b, o, rfl, hcell⟩ := hcs (by omega)
          have c0 := hcell j hjt
          have hb : b < w.heap.size := cell_lt c0
          rw [← hbel.cell (p := ⟨b, o + j, none⟩) hb] at c0
          obtain ⟨g1, g2⟩ := HA.out cols[j] (List.getElem_mem hjt)
          obtain ⟨q, hq⟩ := Int.eq_ofNat_of_zero_le g1
          rw [hq] at c0
          have hql : q < r.length := by omega
          obtain ⟨b', o', rfl, hcell'⟩ := hr (by omega)
          obtain ⟨d0, d1, d2⟩ := hcell' q hql
          have hb' : b' < w.heap.size := cell_lt d0
          rw [← hbel.cell (p := ⟨b', o' + q * 3, none⟩) hb'] at d0
          rw [← hbel.cell (p := ⟨b', o' + q * 3 + 1, none⟩) hb'] at d1
          rw [← hbel.cell (p := ⟨b', o' + q * 3 + 2, none⟩) hb'] at d2
          have hs : flat (projV r (cols.take (j + 1))) = flat (projV r (cols.take j)) ++ [.int .i64 r[q].k, .int .i64 r[q].n, .string r[q].s] := by
            rw [List.take_succ_eq_append_getElem hjt, projV, List.map_append, flat_append, hq]; simp [flat, List.getD, hql, projV]
          generalize r[q] = v at *
          have HS := hid hs
          clear hs hcell hcell' hcs hr hq g1 g2 HA
          have hxl := hown.1
          have z0 : wr.cell? ⟨w.heap.size, j * 3, none⟩ = some xs[j * 3] := by rw [hown.cellAt _ (by omega)]; simp
          have z1 : wr.cell? ⟨w.heap.size, j * 3 + 1, none⟩ = some xs[j * 3 + 1] := by rw [hown.cellAt _ (by omega)]; simp
          have z2 : wr.cell? ⟨w.heap.size, j * 3 + 2, none⟩ = some xs[j * 3 + 2] := by rw [hown.cellAt _ (by omega)]; simp
          have f0 := hown.frozenAt (j * 3)
          have f1 := hown.frozenAt (j * 3 + 1)
          have f2 := hown.frozenAt (j * 3 + 2)
          generalize xs[j * 3] = x0 at *
          generalize xs[j * 3 + 1] = x1 at *
          generalize xs[j * 3 + 2] = x2 at *
          go_wp2
          obtain ⟨hown2, hb2⟩ := own_store3 hown (Nat.le_refl _) (j * 3) (.int .i64 v.k) (.int .i64 v.n) (.string v.s)
          go_roundw
          case rel => exact ⟨j + 1, _, by omega, by go_num, hown2, hid (by rw [HS.out, show (j + 1) * 3 = j * 3 + 3 by omega]; exact take_set3 HX.out (by omega) _ _ _), hbel.trans hb2⟩
          case measure => simp [intOf]; omega
        · have e : cols.take j = cols := List.take_of_length_le (by omega)
          have hxl := hown.1
          have ex : xs = flat (projV r cols) := by
            have := HX.out
            rw [e, List.take_of_length_le (by omega)] at this
            exact this
          rw [ex] at hown
          clear hr hcs HA HX e ex
          go_wp2
          go_ret2
          exact ⟨fun _ => ⟨_, _, rfl, hown⟩, fun h => absurd (HK.out.symm.trans h) (by simp), hbel⟩
end Go.Proofs.YtaghaigckgckpaaDoor
