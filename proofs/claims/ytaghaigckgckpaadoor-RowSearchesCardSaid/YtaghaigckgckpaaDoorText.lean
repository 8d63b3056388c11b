/-
  WALKS: value.Text, row.Text.
-/
import Derived.Test.YtaghaigckgckpaaDoorVal
import Derived.Lib.AppendIntMem
namespace Go.Proofs.YtaghaigckgckpaaDoor
open Go.RowKit

/-- The table of powers of ten lies in the world, and in every world that grows out of it. -/
def Tab (w : World) : Prop := Lib.TabBelow Tryd.prog w.heap.size w "internal/strconv.uint64pow10" .u64 Lib.pow10Tab

theorem Tab.below {w w1 : World} (h : Tab w) (hb : Below w.heap.size w w1) : Tab w1 :=
  fun w' h' => h w' (hb.trans (h'.mono hb.size))

theorem formatInt (n : Int) (hn : I64 n) (w : World) (ht : Tab w) :
    Calls Tryd.prog 39 #[.int .i64 n, .int .i64 10] w fun e w' => e = .returned (.string ⟨(Lib.itoa n).toArray⟩) ∧ Below w.heap.size w w' :=
  (Tryd.strconv_FormatInt_10 n hn.1 hn.2 w ht.here).mono fun _ _ ⟨he, k, os, hw⟩ => ⟨he, by rw [hw]; exact Lib.below_grow _ _ (Nat.le_refl _) _ _⟩

set_option maxHeartbeats 400000 in
theorem value_text (v : V) (w : World) (hn : I64 v.n) (hs : v.s.size ≤ 100000) (ht : Tab w) {x : List UInt8} (hx : textL v = x) :
    Calls Tryd.prog 32 #[.agg #[.int .i64 v.k, .int .i64 v.n, .string v.s]] w fun e w' => e = .returned (.string ⟨x.toArray⟩) ∧ Below w.heap.size w w' := by
  obtain ⟨k, n, s⟩ := v
  have hb := below_one w (.cells #[.int .i64 k, .int .i64 n, .string s] 43)
  have hvc := fun W => value_valid ⟨k, n, s⟩ W rfl
  cases hv : V.valid ⟨k, n, s⟩
  · have H : Hid ([] = x) := hid ((textL_no hv).symm.trans hx)
    rw [hv] at hvc
    clear hx hv
    go_enter Tryd.func32, Tryd.ntmps32
    go_wp2_with (go_at_call 38; refine (hvc _).mono ?_; rintro e w1 ⟨rfl, hb1⟩)
    go_ret
    exact ⟨ret_s H.out, hb.trans (hb1.mono hb.size)⟩
  · rw [hv] at hvc
    by_cases h1 : k = 1
    · have H : Hid (Lib.itoa n = x) := hid ((textL_int hv h1).symm.trans hx)
      clear hx hv
      subst h1
      have hfi := fun W => formatInt n hn W
      go_enter Tryd.func32, Tryd.ntmps32
      go_wp2_with (first
        | (go_at_call 38; refine (hvc _).mono ?_; rintro e w1 ⟨rfl, hb1⟩; have hc0 := (hb1.cell (p := ⟨w.heap.size, 0, none⟩) (by simp)); have hc1 := (hb1.cell (p := ⟨w.heap.size, 1, none⟩) (by simp)); have hc2 := (hb1.cell (p := ⟨w.heap.size, 2, none⟩) (by simp)); have ht1 := hid (ht.below (hb.trans (hb1.mono hb.size))))
        | (go_at_call 39; refine (hfi _ ht1.out).mono ?_; rintro e w2 ⟨rfl, hb2⟩))
      go_ret
      exact ⟨ret_s H.out, (hb.trans (hb1.mono hb.size)).trans (hb2.mono (hb.trans (hb1.mono hb.size)).size)⟩
    · have b1 : (k == 1) = false := by simpa using h1
      have H : Hid (quoteL s.data.toList = x) := hid ((textL_str hv h1).symm.trans hx)
      clear hx hv h1
      have hq := fun W => value_quote s W hs
      go_enter Tryd.func32, Tryd.ntmps32
      go_wp2_with (first
        | (go_at_call 38; refine (hvc _).mono ?_; rintro e w1 ⟨rfl, hb1⟩; have hc0 := (hb1.cell (p := ⟨w.heap.size, 0, none⟩) (by simp)); have hc1 := (hb1.cell (p := ⟨w.heap.size, 1, none⟩) (by simp)); have hc2 := (hb1.cell (p := ⟨w.heap.size, 2, none⟩) (by simp)))
        | (go_at_call 40; refine (hq _).mono ?_; rintro e w2 ⟨rfl, hb2⟩))
      go_ret
      exact ⟨ret_s H.out, (hb.trans (hb1.mono hb.size)).trans (hb2.mono (hb.trans (hb1.mono hb.size)).size)⟩

theorem own_below {w w' : World} {B : Nat} {e : TypeId} {size n : Nat} {v : Value} {xs : List Value} (h : w.ownsRow B e size v n xs) (hb : Below w.heap.size w w') : w'.ownsRow B e size v n xs := by
  obtain ⟨hl, h0 | ⟨g, cap, cur, hv, hB, hh, r⟩⟩ := h
  · exact ⟨hl, .inl h0⟩
  · have hg : g < w.heap.size := (Array.getElem?_eq_some_iff.1 hh).1
    exact ⟨hl, .inr ⟨g, cap, cur, hv, hB, (hb.block g hg).trans hh, r⟩⟩

end Go.Proofs.YtaghaigckgckpaaDoor
