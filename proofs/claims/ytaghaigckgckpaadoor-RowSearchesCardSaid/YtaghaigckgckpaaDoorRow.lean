/-
  WALKS over rows: row.CompareBy and what stands on it.
-/
import Derived.Test.YtaghaigckgckpaaDoorCmp
import Derived.StillTailTactics
import Derived.Deep.QuietTactic
import Derived.BigQuiet
namespace Go.Proofs.YtaghaigckgckpaaDoor
open Go.RowKit


/-- A slice of values reads as a row. -/
def RowAt (w : World) (A : Option Addr) (r : List V) : Prop :=
  0 < r.length → ∃ b o, A = some ⟨b, o, none⟩ ∧ ∀ i (h : i < r.length),
    w.cell? ⟨b, o + i * 3, none⟩ = some (.int .i64 r[i].k) ∧ w.cell? ⟨b, o + i * 3 + 1, none⟩ = some (.int .i64 r[i].n) ∧ w.cell? ⟨b, o + i * 3 + 2, none⟩ = some (.string r[i].s)

theorem RowAt.below {w w' : World} {A : Option Addr} {r : List V} (h : RowAt w A r) (hb : Below w.heap.size w w') : RowAt w' A r := by
  intro hl
  obtain ⟨b, o, e, hc⟩ := h hl
  refine ⟨b, o, e, fun i hi => ?_⟩
  obtain ⟨h0, h1, h2⟩ := hc i hi
  exact ⟨(hb.cell (cell_lt h0)).trans h0, (hb.cell (cell_lt h1)).trans h1, (hb.cell (cell_lt h2)).trans h2⟩

theorem RowAt.nil {w : World} {A : Option Addr} : RowAt w A [] := fun h => absurd h (by simp)

/-- A slice of flags. -/
def BoolsAt (w : World) (A : Option Addr) (d : List Bool) : Prop :=
  0 < d.length → ∃ b o, A = some ⟨b, o, none⟩ ∧ ∀ i (h : i < d.length), w.cell? ⟨b, o + i, none⟩ = some (.bool d[i])

theorem BoolsAt.below {w w' : World} {A : Option Addr} {r : List Bool} (h : BoolsAt w A r) (hb : Below w.heap.size w w') : BoolsAt w' A r := by
  intro hl
  obtain ⟨b, o, e, hc⟩ := h hl
  exact ⟨b, o, e, fun i hi => (hb.cell (cell_lt (hc i hi))).trans (hc i hi)⟩

theorem BoolsAt.nil {w : World} {A : Option Addr} : BoolsAt w A [] := fun h => absurd h (by simp)

set_option maxRecDepth 100000 in
set_option maxHeartbeats 1000000 in
theorem compareBy (A A' D : Option Addr) (c c' c'' : Nat) (r r' : List V) (d : List Bool) (w : World) {x : Int} (hx : rowCmp d r r' = x) (hr : RowAt w A r) (hr' : RowAt w A' r') (hd : BoolsAt w D d)
    (hl : r.length ≤ 100000) (hl' : r'.length ≤ 100000) (hl'' : d.length ≤ 100000) :
    Calls Tryd.prog 20 #[.slice A r.length c, .slice A' r'.length c', .slice D d.length c''] w fun e w' => e = .returned (.int .i64 x) ∧ Below w.heap.size w w' := by
  have HX := hid hx
  clear hx
  go_enter Tryd.func20, Tryd.ntmps20
  go_wp2
  go_loopw [14] (fun i wr => ∃ k : Nat, k ≤ r.length ∧ k ≤ r'.length ∧ i = .int .i64 k ∧ Below w.heap.size w wr ∧ Hid (rowCmp (d.drop k) (r.drop k) (r'.drop k) = x)) (fun i _ => r.length - (intOf i).toNat)
  case atStart => exact ⟨0, by omega, by omega, rfl, Below.refl _ _, HX⟩
  case round =>
    obtain ⟨k, hk, hk', rfl, hbel, hinv⟩ := hrel
    clear HX
    by_cases hlt : k < r.length ∧ k < r'.length
    · obtain ⟨h1, h2⟩ := hlt
      obtain ⟨b, o, rfl, hcell⟩ := hr (by omega)
      obtain ⟨b', o', rfl, hcell'⟩ := hr' (by omega)
      obtain ⟨c0, c1, c2⟩ := hcell k h1
      obtain ⟨d0, d1, d2⟩ := hcell' k h2
      rw [← hbel.cell (cell_lt c0)] at c0
      rw [← hbel.cell (cell_lt c1)] at c1
      rw [← hbel.cell (cell_lt c2)] at c2
      rw [← hbel.cell (cell_lt d0)] at d0
      rw [← hbel.cell (cell_lt d1)] at d1
      rw [← hbel.cell (cell_lt d2)] at d2
      clear hcell hcell'
      have hst := fun e => rowCmp_step (d := d) h1 h2 e
      have hsp := fun e => rowCmp_stop (d := d) h1 h2 e
      have hrg := V.cmp_range r[k] r'[k]
      generalize r[k] = v at *
      generalize r'[k] = v' at *
      obtain ⟨y, hy⟩ : ∃ y, V.cmp v v' = y := ⟨_, rfl⟩
      rw [hy] at hst hsp hrg
      obtain ⟨hy1, hy2⟩ := hrg
      have Hst := hid hst
      have Hsp := hid hsp
      clear hst hsp hr hr'
      have hvc := fun W => hid (value_cmp v v' W hy)
      clear hy
      go_wp2
      go_still_tail 8, (by kernel_rfl)
      change wpList _ _ _ _ _ wr.drew
      by_cases hy0 : y = 0
      · have e := Hst.out hy0
        subst hy0
        have Hi : Hid (rowCmp (d.drop (k + 1)) (r.drop (k + 1)) (r'.drop (k + 1)) = x) := hid (e.symm.trans hinv.out)
        clear e Hst Hsp hinv
        go_wp2_with (go_at_call 34; refine ((hvc _).out).mono ?_; rintro e w1 ⟨rfl, hb1⟩)
        go_roundw
        case rel => exact ⟨k + 1, by omega, by omega, by go_num, hbel.drew.trans (hb1.mono hbel.size), Hi⟩
        case measure => simp [intOf]; omega
      · have hy0' : (y == 0) = false := by simpa using hy0
        have e := Hsp.out hy0
        clear Hst Hsp hy0
        have e2 : Hid ((if d.getD k false then -y else y) = x) := hid (e.symm.trans hinv.out)
        clear e hinv
        by_cases hd1 : k < d.length
        · obtain ⟨bd, od, rfl, hdc⟩ := hd (by omega)
          have f0 := hdc k hd1
          rw [← hbel.cell (cell_lt f0)] at f0
          clear hdc hd
          have hgd : d.getD k false = d[k] := by simp [List.getD, hd1]
          rw [hgd] at e2
          generalize d[k] = q at *
          cases q
          · have e3 : Hid (y = x) := by simpa using e2
            clear e2
            go_wp2_with (go_at_call 34; refine ((hvc _).out).mono ?_; rintro e w1 ⟨rfl, hb1⟩; have f1 := (hb1.cell (p := ⟨bd, od + k, none⟩) (cell_lt f0)).trans f0)
            go_ret
            exact ⟨ret_i e3.out, hbel.drew.trans (hb1.mono hbel.size)⟩
          · have e3 : Hid (-y = x) := by simpa using e2
            clear e2
            go_wp2_with (go_at_call 34; refine ((hvc _).out).mono ?_; rintro e w1 ⟨rfl, hb1⟩; have f1 := (hb1.cell (p := ⟨bd, od + k, none⟩) (cell_lt f0)).trans f0)
            go_ret
            exact ⟨ret_i e3.out, hbel.drew.trans (hb1.mono hbel.size)⟩
        · have hgd : d.getD k false = false := by simp [List.getD, show ¬ k < d.length from hd1]
          rw [hgd] at e2
          have e3 : Hid (y = x) := by simpa using e2
          clear e2 hgd
          go_wp2_with (go_at_call 34; refine ((hvc _).out).mono ?_; rintro e w1 ⟨rfl, hb1⟩)
          go_ret
          exact ⟨ret_i e3.out, hbel.drew.trans (hb1.mono hbel.size)⟩
    · have e := rowCmp_end (d := d) hk hk' (by omega)
      have e2 : Hid ((if r.length < r'.length then (-1 : Int) else if r'.length < r.length then 1 else 0) = x) := hid (e.symm.trans hinv.out)
      clear e hinv
      by_cases hA : r.length < r'.length
      · have e3 : Hid (-1 = x) := hid (by have := e2.out; rwa [if_pos hA] at this)
        clear e2
        go_wp2
        go_ret
        exact ⟨ret_i e3.out, hbel⟩
      · by_cases hB : r'.length < r.length
        · have e3 : Hid (1 = x) := hid (by have := e2.out; rwa [if_neg hA, if_pos hB] at this)
          clear e2
          go_wp2
          go_ret
          exact ⟨ret_i e3.out, hbel⟩
        · have e3 : Hid (0 = x) := hid (by have := e2.out; rwa [if_neg hA, if_neg hB] at this)
          clear e2
          go_wp2
          go_ret
          exact ⟨ret_i e3.out, hbel⟩
end Go.Proofs.YtaghaigckgckpaaDoor
