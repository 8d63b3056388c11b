/-
  WALKS: row.Compare, row.Equal, the law's Ints, row.Project.
-/
import Derived.Test.YtaghaigckgckpaaDoorRow
import Derived.Test.YtaghaigckgckpaaDoorTextR
namespace Go.Proofs.YtaghaigckgckpaaDoor
open Go.RowKit

/-- The cells of a row. -/
def flat (r : List V) : List Value := r.flatMap fun v => [.int .i64 v.k, .int .i64 v.n, .string v.s]

theorem flat_length : ∀ r : List V, (flat r).length = r.length * 3
  | [] => rfl
  | v :: r => by
    have := flat_length r
    simp only [flat, List.flatMap_cons, List.length_append, List.length_cons] at *
    simp only [List.length_nil]; omega

theorem flat_get : ∀ (r : List V) (i : Nat) (h : i < r.length), (flat r)[i * 3]? = some (.int .i64 r[i].k) ∧ (flat r)[i * 3 + 1]? = some (.int .i64 r[i].n) ∧ (flat r)[i * 3 + 2]? = some (.string r[i].s)
  | v :: r, 0, _ => ⟨rfl, rfl, rfl⟩
  | v :: r, i + 1, h => by
    have := flat_get r i (by simpa using h)
    have e : (i + 1) * 3 = i * 3 + 3 := by omega
    simpa [flat, e, Nat.add_assoc] using this

theorem flat_append (r r' : List V) : flat (r ++ r') = flat r ++ flat r' := by simp [flat]

theorem own_row {w : World} {B : Nat} {e : TypeId} {v : Value} {r : List V} (h : w.ownsRow B e 3 v r.length (flat r)) : ∃ A c, v = .slice A r.length c ∧ RowAt w A r := by
  rcases h.2 with ⟨rfl, h0⟩ | ⟨g, cap, cur, rfl, hB, hh, hn, hm, hcs, ht⟩
  · refine ⟨none, 0, by rw [h0], ?_⟩
    intro hp; omega
  · refine ⟨some ⟨g, 0, none⟩, cap, rfl, fun hp => ⟨g, 0, rfl, fun i hi => ?_⟩⟩
    obtain ⟨e0, e1, e2⟩ := flat_get r i hi
    have hl := flat_length r
    refine ⟨?_, ?_, ?_⟩
    · rw [h.cellAt _ (by omega)]; rw [Nat.zero_add]; exact e0
    · rw [h.cellAt _ (by omega)]; rw [Nat.zero_add]; exact e1
    · rw [h.cellAt _ (by omega)]; rw [Nat.zero_add]; exact e2

/-- A call that returns a row in memory of its own. -/
def RetRow (w : World) (r : List V) (e : Ending) (w' : World) : Prop := ∃ A c, e = .returned (.slice A r.length c) ∧ RowAt w' A r ∧ Below w.heap.size w w'

theorem row_compare (A A' : Option Addr) (c c' : Nat) (r r' : List V) (w : World) {x : Int} (hx : rowCmp [] r r' = x) (hr : RowAt w A r) (hr' : RowAt w A' r') (hl : r.length ≤ 100000) (hl' : r'.length ≤ 100000) :
    Calls Tryd.prog 19 #[.slice A r.length c, .slice A' r'.length c'] w fun e w' => e = .returned (.int .i64 x) ∧ Below w.heap.size w w' := by
  have hc := fun W h1 h2 => compareBy A A' none c c' 0 r r' [] W hx h1 h2 BoolsAt.nil hl hl' (by simp)
  clear hx
  go_enter Tryd.func19, Tryd.ntmps19
  go_wp2_with (go_at_call 20; refine (hc _ hr hr').mono ?_; rintro e w1 ⟨rfl, hb1⟩)
  go_ret
  exact ⟨rfl, hb1⟩

theorem row_equal (A A' : Option Addr) (c c' : Nat) (r r' : List V) (w : World) {x : Bool} (hx : decide (rowCmp [] r r' = 0) = x) (hr : RowAt w A r) (hr' : RowAt w A' r') (hl : r.length ≤ 100000) (hl' : r'.length ≤ 100000) :
    Calls Tryd.prog 21 #[.slice A r.length c, .slice A' r'.length c'] w fun e w' => e = .returned (.bool x) ∧ Below w.heap.size w w' := by
  obtain ⟨y, hy⟩ : ∃ y, rowCmp [] r r' = y := ⟨_, rfl⟩
  have hc := fun W h1 h2 => row_compare A A' c c' r r' W hy h1 h2 hl hl'
  rw [hy] at hx
  have H : Hid ((y == 0) = x) := hid (by rw [← hx]; rfl)
  clear hx hy
  go_enter Tryd.func21, Tryd.ntmps21
  go_wp2_with (go_at_call 19; refine (hc _ hr hr').mono ?_; rintro e w1 ⟨rfl, hb1⟩)
  go_ret
  exact ⟨ret_b H.out, hb1⟩

/-- A slice of integers. -/
def IntsAt (w : World) (A : Option Addr) (l : List Int) : Prop :=
  0 < l.length → ∃ b o, A = some ⟨b, o, none⟩ ∧ ∀ i (h : i < l.length), w.cell? ⟨b, o + i, none⟩ = some (.int .i64 l[i])

theorem IntsAt.below {w w' : World} {A : Option Addr} {r : List Int} (h : IntsAt w A r) (hb : Below w.heap.size w w') : IntsAt w' A r := by
  intro hl
  obtain ⟨b, o, e, hc⟩ := h hl
  exact ⟨b, o, e, fun i hi => (hb.cell (cell_lt (hc i hi))).trans (hc i hi)⟩

theorem infoV : (Tryd.prog.info? 43).map (fun i => (i.zero, i.size, i.bytes)) = some (some (.agg #[.int .i64 0, .int .i64 0, .string ⟨#[]⟩]), 3, 32) := by kernel_rfl

def intV (n : Int) : V := ⟨1, n, ⟨#[]⟩⟩

set_option maxRecDepth 100000 in
set_option maxHeartbeats 1000000 in
theorem law_ints (A : Option Addr) (c : Nat) (l : List Int) (w : World) (hr : IntsAt w A l) (hl : l.length ≤ 100000) :
    Calls Tryd.prog 17 #[.slice A l.length c] w (RetRow w (l.map intV)) := by
  obtain ⟨i0, hi, hz0, hz1, hz2⟩ := info_parts infoV
  go_enter Tryd.func17, Tryd.ntmps17
  go_wp2
  go_loopw [3, 8] (fun v i wr => ∃ k : Nat, k ≤ l.length ∧ i = .int .i64 k ∧ wr.ownsRow w.heap.size 43 3 v k (flat ((l.take k).map intV)) ∧ Below w.heap.size w wr) (fun _ i _ => l.length - (intOf i).toNat)
  case atStart => exact ⟨0, by omega, rfl, World.ownsRow_nil _ _ _ _, Below.refl _ _⟩
  case round =>
    obtain ⟨k, hk, rfl, hown, hbel⟩ := hrel
    have hsz := hbel.size
    by_cases hlt : k < l.length
    · obtain ⟨b, o, rfl, hcell⟩ := hr (by omega)
      have c0 := hcell k hlt
      have hb : b < w.heap.size := cell_lt c0
      rw [← hbel.cell (p := ⟨b, o + k, none⟩) hb] at c0
      have hs : Hid (flat ((l.take (k + 1)).map intV) = flat ((l.take k).map intV) ++ [.int .i64 1, .int .i64 l[k], .string ⟨#[]⟩]) := hid (by rw [List.take_succ_eq_append_getElem hlt, List.map_append, flat_append]; rfl)
      generalize l[k] = n at *
      clear hcell hr
      go_wp2_with (at_builtin; refine wpList_append_new Tryd.underlying35 hi hz0 hz1 hz2 rfl (by decide) (by decide) rfl rfl rfl hown rfl rfl rfl (by omega) hsz ?_; intro v2 w2 hown2 hg2)
      go_roundw
      case rel => exact ⟨k + 1, by omega, by go_num, by rw [hs.out]; exact hown2, hbel.trans (grown_below hown hg2 hsz)⟩
      case measure => simp [intOf]; omega
    · have e : l.take k = l := List.take_of_length_le (by omega)
      have ek : k = (l.map intV).length := by simp; omega
      rw [e] at hown
      have hown' : wr.ownsRow w.heap.size 43 3 u3 (l.map intV).length (flat (l.map intV)) := by rw [← ek]; exact hown
      obtain ⟨A', c', rfl, hrow⟩ := own_row hown'
      clear hown hown' e
      have hlen := hid ek
      clear ek
      go_wp2
      go_ret
      exact ⟨A', c', rfl, hrow, hbel⟩
end Go.Proofs.YtaghaigckgckpaaDoor
