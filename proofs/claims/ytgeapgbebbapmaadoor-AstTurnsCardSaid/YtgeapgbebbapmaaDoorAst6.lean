/-
  WALKS: slices.Index, slices.Contains of names; ast.checkHead, ast.checkAggregate.
-/
import Derived.Test.YtgeapgbebbapmaaDoorAst2
import Derived.Test.YtgeapgbebbapmaaDoorAst3
import Derived.Test.YtgeapgbebbapmaaDoorAst5
namespace Go.Proofs.YtgeapgbebbapmaaDoor
open Go.RowKit

theorem ast_validS (s : ByteArray) (w : World) {x : Bool} (hx : nameB s.data.toList = x) :
    Calls Tryd.prog 52 #[.string s] w fun e w' => e = .returned (.bool x) ∧ w = w' := ast_valid s.data.toList w hx
theorem nm (l : Str) : ∃ Y : ByteArray, (⟨l.toArray⟩ : ByteArray) = Y ∧ Y.data.toList = l ∧ Y.toList = l := ⟨_, rfl, rfl, Lib.toList_data _⟩
theorem eqS {X Y : ByteArray} {l m : Str} (hX : X.toList = l) (hY : Y.toList = m) : (X.toList == Y.toList) = decide (l = m) := by
  rw [hX, hY]; by_cases h : l = m <;> simp [h]
theorem noS {Y : ByteArray} {l : Str} (hY : Y.toList = l) : Y.toList.isEmpty = decide (l = []) := by
  rw [hY]; cases l <;> simp

set_option maxRecDepth 100000 in
set_option maxHeartbeats 2000000 in
theorem sl_index (A : Option Addr) (n c : Nat) (l : List Str) (X : ByteArray) (w : World) (hl : NmsAt w A l) (hn : n ≤ l.length) (hm : l.length ≤ 9223372036854775807) {b : Bool} (hb : decide (X.data.toList ∈ l.take n) = b) :
    Calls Tryd.prog 71 #[.slice A n c, .string X] w fun e w' => ∃ r : Int, e = .returned (.int .i64 r) ∧ (decide (0 ≤ r) = b ∧ w = w') := by
  obtain ⟨x, hx⟩ : ∃ x, X.data.toList = x := ⟨_, rfl⟩
  have hX : X.toList = x := by rw [Lib.toList_data]; exact hx
  rw [hx] at hb
  clear hx
  have HB := hid hb
  clear hb
  have HX := hid hX
  clear hX
  go_enter Tryd.func71, Tryd.ntmps71
  go_wp2
  go_loop [8] (fun i => ∃ k : Nat, k ≤ n ∧ i = .int .i64 k ∧ Hid (x ∉ l.take k)) (fun i => n - (intOf i).toNat)
  case atStart => exact ⟨0, by omega, rfl, hid (by simp)⟩
  case round =>
    obtain ⟨k, hk, rfl, HK⟩ := hrel
    by_cases hlt : k < n
    · have hlt' : k < l.length := by omega
      obtain ⟨bb, o, rfl, hc⟩ := hl (by omega)
      have c0 := hc k hlt'
      have htk := List.take_succ_eq_append_getElem hlt'
      obtain ⟨y, hy⟩ : ∃ y, l[k] = y := ⟨_, rfl⟩
      rw [hy] at c0 htk
      obtain ⟨Y, hY, _, hYl⟩ := nm y
      rw [hY] at c0
      have hq := eqS HX.out hYl
      have HT := hid htk
      clear hY hYl htk hc hl
      by_cases he : x = y
      · have hq2 : (X.toList == Y.toList) = true := by rw [hq]; simpa using he
        have hb1 : b = true := by
          rw [← HB.out]
          refine decide_eq_true ?_
          have h1 : x ∈ l.take (k + 1) := by rw [HT.out, he]; simp
          exact (List.take_subset_take_left l (by omega : k + 1 ≤ n)) h1
        clear hq he HB HK HT hy
        go_wp2
        go_ret
        exact ⟨k, rfl, by first | omega | (rw [hb1]; simp), rfl⟩
      · have hq2 : (X.toList == Y.toList) = false := by rw [hq]; simpa using he
        have HN : Hid (x ∉ l.take (k + 1)) := hid (by rw [HT.out]; simpa using ⟨HK.out, he⟩)
        clear hq he HK HT hy
        go_wp2
        go_round
        case rel => exact ⟨k + 1, by omega, by go_num, HN⟩
        case measure => simp [intOf]; omega
    · have hb1 : b = false := by
        rw [← HB.out]
        have hkn : k = n := by omega
        rw [← hkn]
        exact decide_eq_false HK.out
      clear HB HK
      go_wp2
      go_ret
      exact ⟨-1, rfl, by first | omega | (rw [hb1]; decide), rfl⟩

set_option maxRecDepth 100000 in
set_option maxHeartbeats 2000000 in
theorem sl_contains (A : Option Addr) (n c : Nat) (l : List Str) (X : ByteArray) (w : World) (hl : NmsAt w A l) (hn : n ≤ l.length) (hm : l.length ≤ 9223372036854775807) {b : Bool} (hb : decide (X.data.toList ∈ l.take n) = b) :
    Calls Tryd.prog 53 #[.slice A n c, .string X] w fun e w' => e = .returned (.bool b) ∧ w = w' := by
  have H1 := fun W h => hid (sl_index A n c l X W h hn hm hb)
  have HL := hid hl
  clear hb hl
  go_enter Tryd.func53, Tryd.ntmps53
  go_wp2_with fail
  refine (H1 _ HL.out).out.mono ?_
  rintro e w1 ⟨r, rfl, hr, rfl⟩
  have HR := hid hr
  clear hr
  go_wp2
  go_ret
  exact ⟨ret_b HR.out, rfl⟩

set_option maxRecDepth 100000 in
set_option maxHeartbeats 2000000 in
theorem ast_checkHead (A : Option Addr) (c : Nat) (l : List Str) (w : World) (hl : NmsAt w A l) (hcap : l.length ≤ c) (hm : l.length ≤ 9223372036854775807) {x : Int} (hx : headE l = x) :
    Calls Tryd.prog 27 #[.slice A l.length c] w fun e w' => e = .returned (.int .i64 x) ∧ w = w' := by
  unfold headE at hx
  by_cases h6 : 6 < l.length
  · rw [if_pos h6] at hx
    subst hx
    go_enter Tryd.func27, Tryd.ntmps27
    go_wp2
    go_ret
    exact ⟨rfl, rfl⟩
  · rw [if_neg h6] at hx
    have HX : Hid (headGo (l.take 0) (l.drop 0) = x) := hid (by simpa using hx)
    have HL := hid hl
    clear hx hl
    go_enter Tryd.func27, Tryd.ntmps27
    go_wp2
    go_loop [10] (fun i => ∃ k : Nat, k ≤ l.length ∧ i = .int .i64 k ∧ Hid (headGo (l.take k) (l.drop k) = x)) (fun i => l.length - (intOf i).toNat)
    case atStart => exact ⟨0, by omega, rfl, HX⟩
    case round =>
      obtain ⟨k, hk, rfl, HK⟩ := hrel
      clear HX
      by_cases hlt : k < l.length
      · obtain ⟨bb, o, rfl, hc⟩ := HL.out (by omega)
        have c0 := hc k hlt
        have hon := fun h1 h2 => headGo_on hlt h1 h2
        have hnm := fun h1 => headGo_name hlt h1
        have htw := fun h1 h2 => headGo_twice hlt h1 h2
        obtain ⟨y, hy⟩ : ∃ y, l[k] = y := ⟨_, rfl⟩
        rw [hy] at c0 hon hnm htw
        obtain ⟨Y, hY, hYd, _⟩ := nm y
        rw [hY] at c0
        obtain ⟨v, hv⟩ : ∃ v, nameB Y.data.toList = v := ⟨_, rfl⟩
        obtain ⟨q, hq⟩ : ∃ q, decide (Y.data.toList ∈ l.take k) = q := ⟨_, rfl⟩
        have H1 := fun W => hid (ast_validS Y W hv)
        have H2 := fun W h => hid (sl_contains (some ⟨bb, o, none⟩) k c l Y W h (by omega) hm hq)
        rw [hYd] at hv hq
        have Hon := hid hon
        have Hnm := hid hnm
        have Htw := hid htw
        clear hY hYd hc hy hon hnm htw
        have hkc : k ≤ c := by omega
        cases v
        · have hx : 7 = x := (Hnm.out hv).symm.trans HK.out
          subst hx
          clear Hon Hnm Htw HK H2 hv hq
          go_wp2_with fail
          refine (H1 _).out.mono ?_
          rintro e w1 ⟨rfl, rfl⟩
          clear H1
          go_wp2
          go_ret
          exact ⟨rfl, rfl⟩
        · cases q
          · have HN : Hid (headGo (l.take (k + 1)) (l.drop (k + 1)) = x) := hid ((Hon.out hv (of_decide_eq_false hq)).symm.trans HK.out)
            clear Hon Hnm Htw HK hv hq
            go_wp2_with fail
            refine (H1 _).out.mono ?_
            rintro e w1 ⟨rfl, rfl⟩
            clear H1
            go_wp2_with fail
            refine (H2 _ HL.out).out.mono ?_
            rintro e w1 ⟨rfl, rfl⟩
            clear H2
            go_wp2
            go_round
            case rel => exact ⟨k + 1, by omega, by go_num, HN⟩
            case measure => simp [intOf]; omega
          · have hx : 8 = x := (Htw.out hv (of_decide_eq_true hq)).symm.trans HK.out
            subst hx
            clear Hon Hnm Htw HK hv hq
            go_wp2_with fail
            refine (H1 _).out.mono ?_
            rintro e w1 ⟨rfl, rfl⟩
            clear H1
            go_wp2_with fail
            refine (H2 _ HL.out).out.mono ?_
            rintro e w1 ⟨rfl, rfl⟩
            clear H2
            go_wp2
            go_ret
            exact ⟨rfl, rfl⟩
      · have hx : 0 = x := (headGo_end hlt).symm.trans HK.out
        subst hx
        clear HK
        go_wp2
        go_ret
        exact ⟨rfl, rfl⟩

set_option maxRecDepth 100000 in
set_option maxHeartbeats 2000000 in
theorem ast_checkAggregate (q : Qry) (A R O : Value) (w : World) {x : Int} (hx : aggE q = x) :
    Calls Tryd.prog 28 #[.agg #[A, .int .i64 q.agg, .string ⟨q.aggVar.toArray⟩, R, O]] w fun e w' => e = .returned (.int .i64 x) ∧ Below w.heap.size w w' := by
  obtain ⟨hd, g, v, rs, os⟩ := q
  unfold aggE at hx
  simp only at hx ⊢
  obtain ⟨Y, hY, hYd, hYl⟩ := nm v
  have hn := noS hYl
  obtain ⟨y, hy⟩ : ∃ y, nameB Y.data.toList = y := ⟨_, rfl⟩
  have H1 := fun W => hid (ast_validS Y W hy)
  rw [hYd] at hy
  rw [hY]
  have hb := below_one w (.cells #[A, .int .i64 g, .string Y, R, O] 26)
  clear hY hYd hYl
  have HX := hid hx
  clear hx
  have b : ∀ n : Int, g ≠ n → (g == n) = false := fun n h => by simpa using h
  by_cases h0 : g = 0
  · have hx := HX.out
    rw [if_pos (.inl h0)] at hx
    subst h0
    by_cases hv : v = []
    · rw [if_pos hv] at hx
      subst hx
      have hn2 : Y.toList.isEmpty = true := by rw [hn]; simpa using hv
      clear HX hn H1 hv hy b
      go_enter Tryd.func28, Tryd.ntmps28
      go_wp2
      go_ret
      exact ⟨rfl, hb⟩
    · rw [if_neg hv] at hx
      subst hx
      have hn2 : Y.toList.isEmpty = false := by rw [hn]; simpa using hv
      clear HX hn H1 hv hy b
      go_enter Tryd.func28, Tryd.ntmps28
      go_wp2
      go_ret
      exact ⟨rfl, hb⟩
  · have b0 := b 0 h0
    by_cases h1 : g = 1
    · have hx := HX.out
      rw [if_pos (.inr h1)] at hx
      subst h1
      by_cases hv : v = []
      · rw [if_pos hv] at hx
        subst hx
        have hn2 : Y.toList.isEmpty = true := by rw [hn]; simpa using hv
        clear HX hn H1 hv hy b b0 h0
        go_enter Tryd.func28, Tryd.ntmps28
        go_wp2
        go_ret
        exact ⟨rfl, hb⟩
      · rw [if_neg hv] at hx
        subst hx
        have hn2 : Y.toList.isEmpty = false := by rw [hn]; simpa using hv
        clear HX hn H1 hv hy b b0 h0
        go_enter Tryd.func28, Tryd.ntmps28
        go_wp2
        go_ret
        exact ⟨rfl, hb⟩
    · have b1 := b 1 h1
      by_cases h24 : g = 2 ∨ g = 3 ∨ g = 4
      · have hx := HX.out
        rw [if_neg (by rintro (h | h); exact h0 h; exact h1 h), if_pos h24, hy] at hx
        clear HX
        cases y
        · have hx : 7 = x := by simpa using hx
          subst hx
          clear hy hn b h0 h1 b0 b1
          rcases h24 with rfl | rfl | rfl
          all_goals
            go_enter Tryd.func28, Tryd.ntmps28
            go_wp2_with fail
            refine (H1 _).out.mono ?_
            rintro e w1 ⟨rfl, rfl⟩
            go_wp2
            go_ret
            exact ⟨rfl, hb⟩
        · have hx : 0 = x := by simpa using hx
          subst hx
          clear hy hn b h0 h1 b0 b1
          rcases h24 with rfl | rfl | rfl
          all_goals
            go_enter Tryd.func28, Tryd.ntmps28
            go_wp2_with fail
            refine (H1 _).out.mono ?_
            rintro e w1 ⟨rfl, rfl⟩
            go_wp2
            go_ret
            exact ⟨rfl, hb⟩
      · have hx := HX.out
        rw [if_neg (by rintro (h | h); exact h0 h; exact h1 h), if_neg h24] at hx
        subst hx
        have b2 := b 2 (fun h => h24 (.inl h))
        have b3 := b 3 (fun h => h24 (.inr (.inl h)))
        have b4 := b 4 (fun h => h24 (.inr (.inr h)))
        clear HX hn H1 hy b h0 h1 h24
        go_enter Tryd.func28, Tryd.ntmps28
        go_wp2
        go_ret
        exact ⟨rfl, hb⟩
end Go.Proofs.YtgeapgbebbapmaaDoor
