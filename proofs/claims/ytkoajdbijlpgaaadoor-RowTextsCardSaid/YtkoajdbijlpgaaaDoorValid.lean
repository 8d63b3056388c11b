/-
  WALKS: validity of values and rows, the program's and the reference's; row.HasPrefix.
-/
import Derived.Test.YtkoajdbijlpgaaaDoorRef2
namespace Go.Proofs.YtkoajdbijlpgaaaDoor
open Go.RowKit

set_option maxHeartbeats 400000 in
theorem refV_valid (v : V) (w : World) {x : Bool} (hx : v.valid = x) :
    Calls Tryd.prog 42 #[.agg #[.int .i64 v.k, .int .i64 v.n, .string v.s]] w fun e w' => e = .returned (.bool x) ∧ Below w.heap.size w w' := by
  obtain ⟨k, n, s⟩ := v
  have hb := below_one w (.cells #[.int .i64 k, .int .i64 n, .string s] 66)
  by_cases h1 : k = 1
  · cases hs : s.toList.isEmpty
    · have H : Hid (false = x) := hid (by rw [← hx]; simp [V.valid, h1]; simpa using hs)
      clear hx
      subst h1
      go_enter Tryd.func42, Tryd.ntmps42
      go_wp2
      go_ret
      exact ⟨ret_b H.out, hb⟩
    · have H : Hid (true = x) := hid (by rw [← hx]; simp [V.valid, h1]; simpa using hs)
      clear hx
      subst h1
      go_enter Tryd.func42, Tryd.ntmps42
      go_wp2
      go_ret
      exact ⟨ret_b H.out, hb⟩
  · have b1 : (k == 1) = false := by simpa using h1
    by_cases h2 : k = 2
    · by_cases h3 : n = 0
      · have H : Hid (decide (s.size ≤ 24) = x) := hid (by rw [← hx]; simp [V.valid, h2, h3])
        clear hx
        subst h2 h3
        go_enter Tryd.func42, Tryd.ntmps42
        go_wp2
        go_ret
        exact ⟨ret_b (by rw [← H.out]; simp; omega), hb⟩
      · have b3 : (n == 0) = false := by simpa using h3
        have H : Hid (false = x) := hid (by rw [← hx]; simp [V.valid, h2, h3])
        clear hx
        subst h2
        go_enter Tryd.func42, Tryd.ntmps42
        go_wp2
        go_ret
        exact ⟨ret_b H.out, hb⟩
    · have b2 : (k == 2) = false := by simpa using h2
      have H : Hid (false = x) := hid (by rw [← hx]; simp [V.valid, h1, h2])
      clear hx h1 h2
      go_enter Tryd.func42, Tryd.ntmps42
      go_wp2
      go_ret
      exact ⟨ret_b H.out, hb⟩

theorem takeAll {α : Type} {p : α → Bool} {l : List α} {k : Nat} (h : (l.take k).all p = true) (hk : ¬ k < l.length) : l.all p = true := by
  rwa [List.take_of_length_le (by omega)] at h
theorem takeBad {α : Type} {p : α → Bool} {l : List α} {k : Nat} (h : k < l.length) (hp : p l[k] = false) : l.all p = false := by
  rw [List.all_eq_false]; exact ⟨_, List.getElem_mem h, by simp [hp]⟩
theorem takeMore {α : Type} {p : α → Bool} {l : List α} {k : Nat} (hk : k < l.length) (h : (l.take k).all p = true) (hp : p l[k] = true) : (l.take (k + 1)).all p = true := by
  rw [List.take_succ_eq_append_getElem hk, List.all_append, h]; simp [hp]

set_option maxRecDepth 100000 in
set_option maxHeartbeats 1000000 in
theorem row_valid (A : Option Addr) (c : Nat) (r : List V) (w : World) (hr : RowAt w A r) (hl : r.length ≤ 100000) {x : Bool} (hx : r.all V.valid = x) :
    Calls Tryd.prog 25 #[.slice A r.length c] w fun e w' => e = .returned (.bool x) ∧ Below w.heap.size w w' := by
  have HX := hid hx
  clear hx
  go_enter Tryd.func25, Tryd.ntmps25
  go_wp2
  go_loopw [6] (fun i wr => ∃ k : Nat, k ≤ r.length ∧ i = .int .i64 k ∧ Hid ((r.take k).all V.valid = true) ∧ Below w.heap.size w wr) (fun i _ => r.length - (intOf i).toNat)
  case atStart => exact ⟨0, by omega, rfl, hid rfl, Below.refl _ _⟩
  case round =>
    obtain ⟨k, hk, rfl, HK, hbel⟩ := hrel
    by_cases hlt : k < r.length
    · obtain ⟨b, o, rfl, hcell⟩ := hr (by omega)
      obtain ⟨c0, c1, c2⟩ := hcell k hlt
      rw [← hbel.cell (cell_lt c0)] at c0
      rw [← hbel.cell (cell_lt c1)] at c1
      rw [← hbel.cell (cell_lt c2)] at c2
      have H1 := hid (fun h => takeMore hlt HK.out h)
      have H2 := hid (fun h => takeBad (p := V.valid) hlt h)
      generalize r[k] = v at *
      clear hcell hr
      cases hv : v.valid
      · have hc := fun W => hid (value_valid v W hv)
        have hf : Hid (false = x) := hid ((H2.out hv).symm.trans HX.out)
        clear H1 H2 hv HX HK
        go_wp2_with (go_at_call 41; refine ((hc _).out).mono ?_; rintro e w1 ⟨rfl, hb1⟩)
        go_ret
        exact ⟨ret_b hf.out, hbel.trans (hb1.mono hbel.size)⟩
      · have hc := fun W => hid (value_valid v W hv)
        have hK := hid (H1.out hv)
        clear H1 H2 hv HX HK
        go_wp2_with (go_at_call 41; refine ((hc _).out).mono ?_; rintro e w1 ⟨rfl, hb1⟩)
        go_roundw
        case rel => exact ⟨k + 1, by omega, by go_num, hK, hbel.trans (hb1.mono hbel.size)⟩
        case measure => simp [intOf]; omega
    · have hf : Hid (true = x) := hid ((takeAll HK.out hlt).symm.trans HX.out)
      clear hr HK HX
      go_wp2
      go_ret
      exact ⟨ret_b hf.out, hbel⟩

set_option maxRecDepth 100000 in
set_option maxHeartbeats 1000000 in
theorem refRow_valid (A : Option Addr) (c : Nat) (r : List V) (w : World) (hr : RowAt w A r) (hl : r.length ≤ 100000) {x : Bool} (hx : r.all V.valid = x) :
    Calls Tryd.prog 26 #[.slice A r.length c] w fun e w' => e = .returned (.bool x) ∧ Below w.heap.size w w' := by
  have HX := hid hx
  clear hx
  go_enter Tryd.func26, Tryd.ntmps26
  go_wp2
  go_loopw [3] (fun i wr => ∃ k : Nat, k ≤ r.length ∧ i = .int .i64 k ∧ Hid ((r.take k).all V.valid = true) ∧ Below w.heap.size w wr) (fun i _ => r.length - (intOf i).toNat)
  case atStart => exact ⟨0, by omega, rfl, hid rfl, Below.refl _ _⟩
  case round =>
    obtain ⟨k, hk, rfl, HK, hbel⟩ := hrel
    by_cases hlt : k < r.length
    · obtain ⟨b, o, rfl, hcell⟩ := hr (by omega)
      obtain ⟨c0, c1, c2⟩ := hcell k hlt
      rw [← hbel.cell (cell_lt c0)] at c0
      rw [← hbel.cell (cell_lt c1)] at c1
      rw [← hbel.cell (cell_lt c2)] at c2
      have H1 := hid (fun h => takeMore hlt HK.out h)
      have H2 := hid (fun h => takeBad (p := V.valid) hlt h)
      generalize r[k] = v at *
      clear hcell hr
      cases hv : v.valid
      · have hc := fun W => hid (refV_valid v W hv)
        have hf : Hid (false = x) := hid ((H2.out hv).symm.trans HX.out)
        clear H1 H2 hv HX HK
        go_wp2_with (go_at_call 42; refine ((hc _).out).mono ?_; rintro e w1 ⟨rfl, hb1⟩)
        go_ret
        exact ⟨ret_b hf.out, hbel.trans (hb1.mono hbel.size)⟩
      · have hc := fun W => hid (refV_valid v W hv)
        have hK := hid (H1.out hv)
        clear H1 H2 hv HX HK
        go_wp2_with (go_at_call 42; refine ((hc _).out).mono ?_; rintro e w1 ⟨rfl, hb1⟩)
        go_roundw
        case rel => exact ⟨k + 1, by omega, by go_num, hK, hbel.trans (hb1.mono hbel.size)⟩
        case measure => simp [intOf]; omega
    · have hf : Hid (true = x) := hid ((takeAll HK.out hlt).symm.trans HX.out)
      clear hr HK HX
      go_wp2
      go_ret
      exact ⟨ret_b hf.out, hbel⟩

/-- Does r begin with p? -/
def prefB (r p : List V) : Bool := decide (p.length ≤ r.length) && decide (rowCmp [] (r.take p.length) p = 0)

theorem RowAt.cut {w : World} {A : Option Addr} {r : List V} (h : RowAt w A r) (n : Nat) : RowAt w A (r.take n) := by
  intro hl
  have hl' : (r.take n).length = min n r.length := List.length_take
  obtain ⟨b, o, e, hc⟩ := h (by omega)
  refine ⟨b, o, e, fun i hi => ?_⟩
  have := hc i (by omega)
  simpa using this

set_option maxRecDepth 100000 in
theorem row_hasPrefix (A A' : Option Addr) (c c' : Nat) (r p : List V) (w : World) (hr : RowAt w A r) (hp : RowAt w A' p) (_hl : r.length ≤ 100000) (hl' : p.length ≤ 100000) (hcap : r.length ≤ c) {x : Bool} (hx : prefB r p = x) :
    Calls Tryd.prog 28 #[.slice A r.length c, .slice A' p.length c'] w fun e w' => e = .returned (.bool x) ∧ Below w.heap.size w w' := by
  by_cases h : p.length ≤ r.length
  · obtain ⟨y, hy⟩ : ∃ y, decide (rowCmp [] (r.take p.length) p = 0) = y := ⟨_, rfl⟩
    have H : Hid (y = x) := hid (by rw [← hx, ← hy]; simp [prefB, h])
    have hlt : (r.take p.length).length = p.length := by rw [List.length_take]; omega
    have he := row_equal A A' c c' (r.take p.length) p w hy (hr.cut _) hp (by omega) hl'
    rw [hlt] at he
    have HE := hid he
    have hcp : p.length ≤ c := by omega
    clear hx hy he hlt hr hp
    go_enter Tryd.func28, Tryd.ntmps28
    go_wp2_with fail
    refine (HE.out).mono ?_
    rintro e w1 ⟨rfl, hb1⟩
    go_wp2
    go_ret
    exact ⟨ret_b H.out, hb1⟩
  · have H : Hid (false = x) := hid (by rw [← hx]; simp [prefB, h])
    have d1 : decide (p.length ≤ r.length) = false := by simpa using h
    have d2 : decide ((p.length : Int) ≤ r.length) = false := by simp; omega
    clear hx
    go_enter Tryd.func28, Tryd.ntmps28
    go_wp2
    go_ret
    exact ⟨ret_b H.out, Below.refl _ _⟩
end Go.Proofs.YtkoajdbijlpgaaaDoor
