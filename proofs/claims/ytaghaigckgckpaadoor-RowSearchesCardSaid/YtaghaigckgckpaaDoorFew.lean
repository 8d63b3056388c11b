/-
  WALK: ordinallaw02.Few.
-/
import Derived.Test.YtaghaigckgckpaaDoorAwake2
namespace Go.Proofs.YtaghaigckgckpaaDoor
open Go.RowKit

/-- A slice of rows. -/
def RowsAt (w : World) (A : Option Addr) (rs : List (List V)) : Prop :=
  0 < rs.length → ∃ b o, A = some ⟨b, o, none⟩ ∧ ∀ i (h : i < rs.length), ∃ A' c, w.cell? ⟨b, o + i, none⟩ = some (.slice A' rs[i].length c) ∧ RowAt w A' rs[i]

theorem RowsAt.below {w w' : World} {A : Option Addr} {rs : List (List V)} (h : RowsAt w A rs) (hb : Below w.heap.size w w') : RowsAt w' A rs := by
  intro hl
  obtain ⟨b, o, e, hc⟩ := h hl
  refine ⟨b, o, e, fun i hi => ?_⟩
  obtain ⟨A', c, h1, h2⟩ := hc i hi
  exact ⟨A', c, (hb.cell (cell_lt h1)).trans h1, h2.below hb⟩

def fewRow (r : List V) : Bool := decide (r.length ≤ 20) && r.all fun v => decide (v.s.size ≤ 100)
def fewB (rs : List (List V)) : Bool := rs.all fewRow && decide (rs.length ≤ 40)

theorem all_take_succ {α : Type} (p : α → Bool) (l : List α) (k : Nat) (h : k < l.length) : (l.take (k + 1)).all p = ((l.take k).all p && p l[k]) := by
  rw [List.take_succ_eq_append_getElem h, List.all_append]; simp
theorem all_bad {α : Type} (p : α → Bool) (l : List α) (k : Nat) (h : k < l.length) (hp : p l[k] = false) : l.all p = false := by
  rw [List.all_eq_false]; exact ⟨_, List.getElem_mem h, by simp [hp]⟩

set_option maxRecDepth 100000 in
set_option maxHeartbeats 2000000 in
theorem law_few (A : Option Addr) (c : Nat) (rs : List (List V)) (w : World) (hr : RowsAt w A rs) (hl : rs.length ≤ 9223372036854775807) {x : Bool} (hx : fewB rs = x) :
    Calls Tryd.prog 5 #[.slice A rs.length c] w fun e w' => e = .returned (.bool x) ∧ Below w.heap.size w w' := by
  have HX := hid hx
  clear hx
  go_enter Tryd.func5, Tryd.ntmps5
  go_wp2
  go_loopw [9] (fun i wr => ∃ k : Nat, k ≤ rs.length ∧ i = .int .i64 k ∧ Hid ((rs.take k).all fewRow = true) ∧ Below w.heap.size w wr) (fun i _ => rs.length - (intOf i).toNat)
  case atStart => exact ⟨0, by omega, rfl, hid rfl, Below.refl _ _⟩
  case round =>
    obtain ⟨k, hk, rfl, HK, hbel⟩ := hrel
    have hsz := hbel.size
    by_cases hlt : k < rs.length
    · obtain ⟨b, o, rfl, hcell⟩ := hr (by omega)
      obtain ⟨A', c', c0, hrow⟩ := hcell k hlt
      have hb : b < w.heap.size := cell_lt c0
      rw [← hbel.cell (p := ⟨b, o + k, none⟩) hb] at c0
      have hs := all_take_succ fewRow rs k hlt
      have hbad := all_bad fewRow rs k hlt
      rw [HK.out] at hs
      generalize hrk : rs[k] = r at *
      have HS := hid hs
      have HB := hid hbad
      clear hs hbad hcell hr hrk
      by_cases h20 : r.length ≤ 20
      · obtain ⟨wo, rfl⟩ : ∃ wo : World, wo = wr := ⟨_, rfl⟩
        go_wp2
        go_loopw [18] (fun i wr => ∃ j : Nat, j ≤ r.length ∧ i = .int .i64 j ∧ Hid ((r.take j).all (fun v => decide (v.s.size ≤ 100)) = true) ∧ Below w.heap.size w wr) (fun i _ => r.length - (intOf i).toNat)
        case atStart => exact ⟨0, by omega, rfl, hid rfl, hbel⟩
        case round =>
          obtain ⟨j, hj, rfl, HJ, hbel2⟩ := hrel
          have hsz2 := hbel2.size
          by_cases hjt : j < r.length
          · obtain ⟨b', o', rfl, hcell'⟩ := hrow (by omega)
            obtain ⟨d0, d1, d2⟩ := hcell' j hjt
            rw [← hbel2.cell (cell_lt d0)] at d0
            rw [← hbel2.cell (cell_lt d1)] at d1
            rw [← hbel2.cell (cell_lt d2)] at d2
            have hs := all_take_succ (fun v : V => decide (v.s.size ≤ 100)) r j hjt
            have hbad := all_bad (fun v : V => decide (v.s.size ≤ 100)) r j hjt
            rw [HJ.out] at hs
            generalize r[j] = v at *
            have HS2 := hid hs
            have HB2 := hid hbad
            clear hs hbad hcell' hrow
            by_cases h100 : v.s.size ≤ 100
            · have HS3 : Hid ((r.take (j + 1)).all (fun v => decide (v.s.size ≤ 100)) = true) := hid (HS2.out.trans (by simpa using h100))
              clear HS2 HB2 HS HB HX
              go_wp2
              go_roundw
              case rel => exact ⟨j + 1, by omega, by go_num, HS3, (hbel2.alloc hsz2 _)⟩
              case measure => simp [intOf]; omega
            · have hf : Hid (fewB rs = false) := hid (by
                have h1 := HB2.out (by simpa using h100)
                have h2 := HB.out (by simp only [fewRow]; rw [h1]; simp)
                simp [fewB, h2])
              have hx : Hid (false = x) := hid (hf.out.symm.trans HX.out)
              clear HS2 HB2 HS HB HX hf
              go_wp2
              go_ret
              exact ⟨ret_b hx.out, hbel2.alloc hsz2 _⟩
          · have e : r.take j = r := List.take_of_length_le (by omega)
            rw [e] at HJ
            have HS3 : Hid ((rs.take (k + 1)).all fewRow = true) := hid (HS.out.trans (by simp only [fewRow]; rw [HJ.out]; simpa using h20))
            clear HS HB HX HJ e
            go_wp2
            go_roundw
            case rel => exact ⟨k + 1, by omega, by go_num, HS3, hbel2⟩
            case measure => simp [intOf]; omega
      · have hf : Hid (fewB rs = false) := hid (by
          have h2 := HB.out (by simp only [fewRow, Bool.and_eq_false_iff]; left; simpa using h20)
          simp [fewB, h2])
        have hx : Hid (false = x) := hid (hf.out.symm.trans HX.out)
        clear HS HB HX hf
        go_wp2
        go_ret
        exact ⟨ret_b hx.out, hbel⟩
    · have e : rs.take k = rs := List.take_of_length_le (by omega)
      rw [e] at HK
      have hx : Hid (decide (rs.length ≤ 40) = x) := hid (by rw [← HX.out]; simp [fewB, HK.out])
      clear HX HK e hr
      go_wp2
      go_ret
      exact ⟨ret_b (by rw [← hx.out]; rw [decide_eq_decide]; omega), hbel⟩
end Go.Proofs.YtaghaigckgckpaaDoor
