/-
  PARTS of a claim, merged by segs.py: Ast6, VeqV, Vv, Ast7.
-/
import Derived.Test.YtjhnopnppimnhaaGreatDoorZ08
import Derived.Test.YtjhnopnppimnhaaGreatDoorZ04
import Derived.Test.YtjhnopnppimnhaaGreatDoorZ01
import Derived.Test.YtjhnopnppimnhaaGreatDoorProg
import Derived.Test.YtjhnopnppimnhaaGreatDoorZ07
import Derived.Laws.StructEq
import Derived.KernelRfl
import Derived.Tactics
import Derived.RegionTactic
import Derived.StillTailTactics
namespace Go.Proofs.YtjhnopnppimnhaaGreatDoor

/-! ### Ast6 -/
section
open Go.RowKit

theorem ast_validS (s : ByteArray) (w : World) {x : Bool} (hx : nameB s.data.toList = x) :
    Calls Tryz.prog 122 #[.string s] w fun e w' => e = .returned (.bool x) ∧ w = w' := ast_valid s.data.toList w hx
theorem nm (l : Str) : ∃ Y : ByteArray, (⟨l.toArray⟩ : ByteArray) = Y ∧ Y.data.toList = l ∧ Y.toList = l := ⟨_, rfl, rfl, Lib.toList_data _⟩
theorem eqS {X Y : ByteArray} {l m : Str} (hX : X.toList = l) (hY : Y.toList = m) : (X.toList == Y.toList) = decide (l = m) := by
  rw [hX, hY]; by_cases h : l = m <;> simp [h]
theorem noS {Y : ByteArray} {l : Str} (hY : Y.toList = l) : Y.toList.isEmpty = decide (l = []) := by
  rw [hY]; cases l <;> simp

set_option maxRecDepth 100000 in
set_option maxHeartbeats 2000000 in
theorem sl_index (A : Option Addr) (n c : Nat) (l : List Str) (X : ByteArray) (w : World) (hl : NmsAt w A l) (hn : n ≤ l.length) (hm : l.length ≤ 9223372036854775807) {b : Bool} (hb : decide (X.data.toList ∈ l.take n) = b) :
    Calls Tryz.prog 148 #[.slice A n c, .string X] w fun e w' => ∃ r : Int, e = .returned (.int .i64 r) ∧ (decide (0 ≤ r) = b ∧ w = w') := by
  obtain ⟨x, hx⟩ : ∃ x, X.data.toList = x := ⟨_, rfl⟩
  have hX : X.toList = x := by rw [Lib.toList_data]; exact hx
  rw [hx] at hb
  clear hx
  have HB := hid hb
  clear hb
  have HX := hid hX
  clear hX
  go_enter Tryz.func148, Tryz.ntmps148
  go_wp2
  go_loop [8] (fun i => ∃ k : Nat, k ≤ n ∧ i = .int .i64 k ∧ Hid (x ∉ l.take k)) (fun i => n - (intOf i).toNat)
  case atStart => exact ⟨0, by omega, rfl, hid (by simp)⟩
  case round =>
    obtain ⟨k, hk, rfl, HK⟩ := hrel
    by_cases hlt : k < n
    · have hlt' : k < l.length := by omega
      obtain ⟨bb, o, rfl, hc⟩ := hl (by omega)
      have c0 := hc k hlt'
      have htk := List.take_succ_eq_append_getElem hlt'
      obtain ⟨y, hy⟩ : ∃ y, l[k] = y := ⟨_, rfl⟩
      rw [hy] at c0 htk
      obtain ⟨Y, hY, _, hYl⟩ := nm y
      rw [hY] at c0
      have hq := eqS HX.out hYl
      have HT := hid htk
      clear hY hYl htk hc hl
      by_cases he : x = y
      · have hq2 : (X.toList == Y.toList) = true := by rw [hq]; simpa using he
        have hb1 : b = true := by
          rw [← HB.out]
          refine decide_eq_true ?_
          have h1 : x ∈ l.take (k + 1) := by rw [HT.out, he]; simp
          exact (List.take_subset_take_left l (by omega : k + 1 ≤ n)) h1
        clear hq he HB HK HT hy
        go_wp2
        go_ret
        exact ⟨k, rfl, by first | omega | (rw [hb1]; simp), rfl⟩
      · have hq2 : (X.toList == Y.toList) = false := by rw [hq]; simpa using he
        have HN : Hid (x ∉ l.take (k + 1)) := hid (by rw [HT.out]; simpa using ⟨HK.out, he⟩)
        clear hq he HK HT hy
        go_wp2
        go_round
        case rel => exact ⟨k + 1, by omega, by go_num, HN⟩
        case measure => simp [intOf]; omega
    · have hb1 : b = false := by
        rw [← HB.out]
        have hkn : k = n := by omega
        rw [← hkn]
        exact decide_eq_false HK.out
      clear HB HK
      go_wp2
      go_ret
      exact ⟨-1, rfl, by first | omega | (rw [hb1]; decide), rfl⟩

set_option maxRecDepth 100000 in
set_option maxHeartbeats 2000000 in
theorem sl_contains (A : Option Addr) (n c : Nat) (l : List Str) (X : ByteArray) (w : World) (hl : NmsAt w A l) (hn : n ≤ l.length) (hm : l.length ≤ 9223372036854775807) {b : Bool} (hb : decide (X.data.toList ∈ l.take n) = b) :
    Calls Tryz.prog 123 #[.slice A n c, .string X] w fun e w' => e = .returned (.bool b) ∧ w = w' := by
  have H1 := fun W h => hid (sl_index A n c l X W h hn hm hb)
  have HL := hid hl
  clear hb hl
  go_enter Tryz.func123, Tryz.ntmps123
  go_wp2_with fail
  refine (H1 _ HL.out).out.mono ?_
  rintro e w1 ⟨r, rfl, hr, rfl⟩
  have HR := hid hr
  clear hr
  go_wp2
  go_ret
  exact ⟨ret_b HR.out, rfl⟩

set_option maxRecDepth 100000 in
set_option maxHeartbeats 2000000 in
theorem ast_checkHead (A : Option Addr) (c : Nat) (l : List Str) (w : World) (hl : NmsAt w A l) (hcap : l.length ≤ c) (hm : l.length ≤ 9223372036854775807) {x : Int} (hx : headE l = x) :
    Calls Tryz.prog 89 #[.slice A l.length c] w fun e w' => e = .returned (.int .i64 x) ∧ w = w' := by
  unfold headE at hx
  by_cases h6 : 6 < l.length
  · rw [if_pos h6] at hx
    subst hx
    go_enter Tryz.func89, Tryz.ntmps89
    go_wp2
    go_ret
    exact ⟨rfl, rfl⟩
  · rw [if_neg h6] at hx
    have HX : Hid (headGo (l.take 0) (l.drop 0) = x) := hid (by simpa using hx)
    have HL := hid hl
    clear hx hl
    go_enter Tryz.func89, Tryz.ntmps89
    go_wp2
    go_loop [10] (fun i => ∃ k : Nat, k ≤ l.length ∧ i = .int .i64 k ∧ Hid (headGo (l.take k) (l.drop k) = x)) (fun i => l.length - (intOf i).toNat)
    case atStart => exact ⟨0, by omega, rfl, HX⟩
    case round =>
      obtain ⟨k, hk, rfl, HK⟩ := hrel
      clear HX
      by_cases hlt : k < l.length
      · obtain ⟨bb, o, rfl, hc⟩ := HL.out (by omega)
        have c0 := hc k hlt
        have hon := fun h1 h2 => headGo_on hlt h1 h2
        have hnm := fun h1 => headGo_name hlt h1
        have htw := fun h1 h2 => headGo_twice hlt h1 h2
        obtain ⟨y, hy⟩ : ∃ y, l[k] = y := ⟨_, rfl⟩
        rw [hy] at c0 hon hnm htw
        obtain ⟨Y, hY, hYd, _⟩ := nm y
        rw [hY] at c0
        obtain ⟨v, hv⟩ : ∃ v, nameB Y.data.toList = v := ⟨_, rfl⟩
        obtain ⟨q, hq⟩ : ∃ q, decide (Y.data.toList ∈ l.take k) = q := ⟨_, rfl⟩
        have H1 := fun W => hid (ast_validS Y W hv)
        have H2 := fun W h => hid (sl_contains (some ⟨bb, o, none⟩) k c l Y W h (by omega) hm hq)
        rw [hYd] at hv hq
        have Hon := hid hon
        have Hnm := hid hnm
        have Htw := hid htw
        clear hY hYd hc hy hon hnm htw
        have hkc : k ≤ c := by omega
        cases v
        · have hx : 7 = x := (Hnm.out hv).symm.trans HK.out
          subst hx
          clear Hon Hnm Htw HK H2 hv hq
          go_wp2_with fail
          refine (H1 _).out.mono ?_
          rintro e w1 ⟨rfl, rfl⟩
          clear H1
          go_wp2
          go_ret
          exact ⟨rfl, rfl⟩
        · cases q
          · have HN : Hid (headGo (l.take (k + 1)) (l.drop (k + 1)) = x) := hid ((Hon.out hv (of_decide_eq_false hq)).symm.trans HK.out)
            clear Hon Hnm Htw HK hv hq
            go_wp2_with fail
            refine (H1 _).out.mono ?_
            rintro e w1 ⟨rfl, rfl⟩
            clear H1
            go_wp2_with fail
            refine (H2 _ HL.out).out.mono ?_
            rintro e w1 ⟨rfl, rfl⟩
            clear H2
            go_wp2
            go_round
            case rel => exact ⟨k + 1, by omega, by go_num, HN⟩
            case measure => simp [intOf]; omega
          · have hx : 8 = x := (Htw.out hv (of_decide_eq_true hq)).symm.trans HK.out
            subst hx
            clear Hon Hnm Htw HK hv hq
            go_wp2_with fail
            refine (H1 _).out.mono ?_
            rintro e w1 ⟨rfl, rfl⟩
            clear H1
            go_wp2_with fail
            refine (H2 _ HL.out).out.mono ?_
            rintro e w1 ⟨rfl, rfl⟩
            clear H2
            go_wp2
            go_ret
            exact ⟨rfl, rfl⟩
      · have hx : 0 = x := (headGo_end hlt).symm.trans HK.out
        subst hx
        clear HK
        go_wp2
        go_ret
        exact ⟨rfl, rfl⟩

set_option maxRecDepth 100000 in
set_option maxHeartbeats 2000000 in
theorem ast_checkAggregate (q : Qry) (A R O : Value) (w : World) {x : Int} (hx : aggE q = x) :
    Calls Tryz.prog 90 #[.agg #[A, .int .i64 q.agg, .string ⟨q.aggVar.toArray⟩, R, O]] w fun e w' => e = .returned (.int .i64 x) ∧ Below w.heap.size w w' := by
  obtain ⟨hd, g, v, rs, os⟩ := q
  unfold aggE at hx
  simp only at hx ⊢
  obtain ⟨Y, hY, hYd, hYl⟩ := nm v
  have hn := noS hYl
  obtain ⟨y, hy⟩ : ∃ y, nameB Y.data.toList = y := ⟨_, rfl⟩
  have H1 := fun W => hid (ast_validS Y W hy)
  rw [hYd] at hy
  rw [hY]
  have hb := below_one w (.cells #[A, .int .i64 g, .string Y, R, O] 95)
  clear hY hYd hYl
  have HX := hid hx
  clear hx
  have b : ∀ n : Int, g ≠ n → (g == n) = false := fun n h => by simpa using h
  by_cases h0 : g = 0
  · have hx := HX.out
    rw [if_pos (.inl h0)] at hx
    subst h0
    by_cases hv : v = []
    · rw [if_pos hv] at hx
      subst hx
      have hn2 : Y.toList.isEmpty = true := by rw [hn]; simpa using hv
      clear HX hn H1 hv hy b
      go_enter Tryz.func90, Tryz.ntmps90
      go_wp2
      go_ret
      exact ⟨rfl, hb⟩
    · rw [if_neg hv] at hx
      subst hx
      have hn2 : Y.toList.isEmpty = false := by rw [hn]; simpa using hv
      clear HX hn H1 hv hy b
      go_enter Tryz.func90, Tryz.ntmps90
      go_wp2
      go_ret
      exact ⟨rfl, hb⟩
  · have b0 := b 0 h0
    by_cases h1 : g = 1
    · have hx := HX.out
      rw [if_pos (.inr h1)] at hx
      subst h1
      by_cases hv : v = []
      · rw [if_pos hv] at hx
        subst hx
        have hn2 : Y.toList.isEmpty = true := by rw [hn]; simpa using hv
        clear HX hn H1 hv hy b b0 h0
        go_enter Tryz.func90, Tryz.ntmps90
        go_wp2
        go_ret
        exact ⟨rfl, hb⟩
      · rw [if_neg hv] at hx
        subst hx
        have hn2 : Y.toList.isEmpty = false := by rw [hn]; simpa using hv
        clear HX hn H1 hv hy b b0 h0
        go_enter Tryz.func90, Tryz.ntmps90
        go_wp2
        go_ret
        exact ⟨rfl, hb⟩
    · have b1 := b 1 h1
      by_cases h24 : g = 2 ∨ g = 3 ∨ g = 4
      · have hx := HX.out
        rw [if_neg (by rintro (h | h); exact h0 h; exact h1 h), if_pos h24, hy] at hx
        clear HX
        cases y
        · have hx : 7 = x := by simpa using hx
          subst hx
          clear hy hn b h0 h1 b0 b1
          rcases h24 with rfl | rfl | rfl
          all_goals
            go_enter Tryz.func90, Tryz.ntmps90
            go_wp2_with fail
            refine (H1 _).out.mono ?_
            rintro e w1 ⟨rfl, rfl⟩
            go_wp2
            go_ret
            exact ⟨rfl, hb⟩
        · have hx : 0 = x := by simpa using hx
          subst hx
          clear hy hn b h0 h1 b0 b1
          rcases h24 with rfl | rfl | rfl
          all_goals
            go_enter Tryz.func90, Tryz.ntmps90
            go_wp2_with fail
            refine (H1 _).out.mono ?_
            rintro e w1 ⟨rfl, rfl⟩
            go_wp2
            go_ret
            exact ⟨rfl, hb⟩
      · have hx := HX.out
        rw [if_neg (by rintro (h | h); exact h0 h; exact h1 h), if_neg h24] at hx
        subst hx
        have b2 := b 2 (fun h => h24 (.inl h))
        have b3 := b 3 (fun h => h24 (.inr (.inl h)))
        have b4 := b 4 (fun h => h24 (.inr (.inr h)))
        clear HX hn H1 hy b h0 h1 h24
        go_enter Tryz.func90, Tryz.ntmps90
        go_wp2
        go_ret
        exact ⟨rfl, hb⟩
end

/-! ### VeqV -/
section
open Go.RowKit

def veq (a b : V) : Bool := a.k == b.k && (a.n == b.n && a.s.toList == b.s.toList)
theorem veq_iff {a b : V} : veq a b = true ↔ a = b := by
  obtain ⟨k, n, ⟨⟨s⟩⟩⟩ := a
  obtain ⟨k', n', ⟨⟨s'⟩⟩⟩ := b
  have e1 : (⟨⟨s⟩⟩ : ByteArray).toList = s := Lib.toList_data _
  have e2 : (⟨⟨s'⟩⟩ : ByteArray).toList = s' := Lib.toList_data _
  simp [veq, e1, e2]
theorem veq_false {a b : V} (h : a ≠ b) : veq a b = false := by
  cases hv : veq a b
  · rfl
  · exact absurd (veq_iff.1 hv) h

theorem guardVal : Tryz.prog.eqGuardType Tryz.prog.depth 67 = false := by kernel_rfl
theorem heldVal : Tryz.prog.stoodInHeld 67 = false := by kernel_rfl
theorem structVal : Tryz.prog.underlying 67 = some (.struct (Tryz.prog.fieldsOf 67)) := by kernel_rfl
theorem eq_val (a b : V) {x : Bool} (hx : veq a b = x) (w : World) :
    (Op.equalIn 10000 67 (.agg #[.int .i64 a.k, .int .i64 a.n, .string a.s]) (.agg #[.int .i64 b.k, .int .i64 b.n, .string b.s])).run Tryz.prog w = .ok x w := by
  subst hx
  rw [run_equalIn_agg w 9999 _ _ _ structVal heldVal]
  simp [go_sem, Tryz.underlying67, Tryz.underlying3, Tryz.underlying2, Tryz.underlying9]
  unfold veq
  by_cases h1 : a.k = b.k <;> by_cases h2 : a.n = b.n <;> by_cases h3 : a.s.toList = b.s.toList <;> simp [h1, h2, h3]

theorem eq_val3 (k n : Int) (s : ByteArray) (k' n' : Int) (s' : ByteArray) {x : Bool} (hx : veq ⟨k, n, s⟩ ⟨k', n', s'⟩ = x) (w : World) :
    (Op.equalIn 10000 67 (.agg #[.int .i64 k, .int .i64 n, .string s]) (.agg #[.int .i64 k', .int .i64 n', .string s'])).run Tryz.prog w = .ok x w := eq_val ⟨k, n, s⟩ ⟨k', n', s'⟩ hx w

end

/-! ### Vv -/
section
open Go.RowKit

set_option maxHeartbeats 400000 in
theorem val_valid (v : V) (w : World) {x : Bool} (hx : v.valid = x) :
    Calls Tryz.prog 39 #[.agg #[.int .i64 v.k, .int .i64 v.n, .string v.s]] w fun e w' => e = .returned (.bool x) ∧ Below w.heap.size w w' := by
  obtain ⟨k, n, s⟩ := v
  have hb := below_one w (.cells #[.int .i64 k, .int .i64 n, .string s] 67)
  by_cases h1 : k = 1
  · have H : Hid (s.toList.isEmpty = x) := hid (by rw [← hx]; simp [V.valid, h1])
    clear hx
    subst h1
    go_enter Tryz.func39, Tryz.ntmps39
    go_wp2
    go_ret
    exact ⟨ret_b H.out, hb⟩
  · have b1 : (k == 1) = false := by simpa using h1
    by_cases h2 : k = 2
    · by_cases h3 : n = 0
      · have H : Hid (decide (s.size ≤ 24) = x) := hid (by rw [← hx]; simp [V.valid, h2, h3])
        clear hx
        subst h2 h3
        go_enter Tryz.func39, Tryz.ntmps39
        go_wp2
        go_ret
        exact ⟨ret_b (by rw [← H.out]; simp; omega), hb⟩
      · have b3 : (n == 0) = false := by simpa using h3
        have H : Hid (false = x) := hid (by rw [← hx]; simp [V.valid, h2, h3])
        clear hx
        subst h2
        go_enter Tryz.func39, Tryz.ntmps39
        go_wp2
        go_ret
        exact ⟨ret_b H.out, hb⟩
    · have b2 : (k == 2) = false := by simpa using h2
      have H : Hid (false = x) := hid (by rw [← hx]; simp [V.valid, h1, h2])
      clear hx h1 h2
      go_enter Tryz.func39, Tryz.ntmps39
      go_wp2
      go_ret
      exact ⟨ret_b H.out, hb⟩

end

/-! ### Ast7 -/
section
open Go.RowKit

def zV : V := ⟨0, 0, ⟨#[]⟩⟩
theorem veq_zero (c : V) : veq c zV = true ↔ (c.k = 0 ∧ c.n = 0 ∧ c.s.size = 0) := by
  rw [veq_iff]
  constructor
  · intro e; rw [e]; exact ⟨rfl, rfl, rfl⟩
  · obtain ⟨a, b, ⟨⟨s⟩⟩⟩ := c
    rintro ⟨h1, h2, h3⟩
    have g1 : a = 0 := h1
    have g2 : b = 0 := h2
    have g3 : s = [] := List.length_eq_zero_iff.1 h3
    clear h1 h2 h3
    subst g1 g2 g3
    rfl
theorem term_ways (t : Trm) : (t.v = [] ∧ t.c.valid = true ∧ termE t = 0) ∨ (t.v = [] ∧ t.c.valid = false ∧ termE t = 4) ∨ (t.v ≠ [] ∧ nameB t.v = false ∧ termE t = 7) ∨
    (t.v ≠ [] ∧ nameB t.v = true ∧ veq t.c zV = true ∧ termE t = 0) ∨ (t.v ≠ [] ∧ nameB t.v = true ∧ veq t.c zV = false ∧ termE t = 1) := by
  unfold termE
  by_cases h : t.v = []
  · cases hv : t.c.valid <;> simp [h]
  · cases hn : nameB t.v
    · simp [h]
    · have he := veq_zero t.c
      cases hq : veq t.c zV
      · have hno : ¬ (t.c.k = 0 ∧ t.c.n = 0 ∧ t.c.s.size = 0) := fun e => by rw [he.2 e] at hq; cases hq
        rw [if_neg h, if_neg (by simp), if_neg hno]
        simp [h]
      · simp [h, he.1 hq]

set_option maxRecDepth 100000 in
set_option maxHeartbeats 4000000 in
theorem ast_checkAtom (a : Atm) (T : Option Addr) (c : Nat) (w : World) (hl : TrmsAt w T a.ts) (hm : a.ts.length ≤ 9223372036854775807) {x : Int} (hx : atomE a = x) :
    Calls Tryz.prog 149 #[.agg #[.bool a.neg, .string ⟨a.rel.toArray⟩, .slice T a.ts.length c]] w fun e w' => e = .returned (.int .i64 x) ∧ Below w.heap.size w w' := by
  obtain ⟨neg, rel, l⟩ := a
  unfold atomE at hx
  simp only at hx hl hm ⊢
  obtain ⟨Y, hY, hYd, _⟩ := nm rel
  obtain ⟨y, hy⟩ : ∃ y, nameB Y.data.toList = y := ⟨_, rfl⟩
  have H1 := fun W => hid (ast_validS Y W hy)
  rw [hYd] at hy
  rw [hY]
  rw [hy] at hx
  have hb0 := below_one w (.cells #[.bool neg, .string Y, .slice T l.length c] 188)
  clear hY hYd hy
  cases y
  · have hx : 7 = x := by simpa using hx
    subst hx
    go_enter Tryz.func149, Tryz.ntmps149
    go_wp2_with fail
    refine (H1 _).out.mono ?_
    rintro e w1 ⟨rfl, rfl⟩
    go_wp2
    go_ret
    exact ⟨rfl, hb0⟩
  · rw [if_neg (by simp)] at hx
    by_cases h6 : 6 < l.length
    · rw [if_pos h6] at hx
      subst hx
      go_enter Tryz.func149, Tryz.ntmps149
      go_wp2_with fail
      refine (H1 _).out.mono ?_
      rintro e w1 ⟨rfl, rfl⟩
      go_wp2
      go_ret
      exact ⟨rfl, hb0⟩
    · rw [if_neg h6] at hx
      have HX : Hid (firstE termE (l.drop 0) = x) := hid hx
      clear hx
      go_enter Tryz.func149, Tryz.ntmps149
      go_wp2_with fail
      refine (H1 _).out.mono ?_
      rintro e w1 ⟨rfl, rfl⟩
      clear H1
      go_wp2
      go_loopw [16] (fun i wr => ∃ k : Nat, k ≤ l.length ∧ i = .int .i64 k ∧ Hid (firstE termE (l.drop k) = x) ∧ Below w.heap.size w wr) (fun i _ => l.length - (intOf i).toNat)
      case atStart => exact ⟨0, by omega, rfl, HX, hb0⟩
      case round =>
        obtain ⟨k, hk, rfl, HK, hbel⟩ := hrel
        have hsz := hbel.size
        clear HX hb0
        by_cases hlt : k < l.length
        · obtain ⟨bb, o, rfl, hc⟩ := hl (by omega)
          obtain ⟨d0, d1, d2, d3⟩ := hc k hlt
          replace d0 := cell_keep hbel d0
          replace d1 := cell_keep hbel d1
          replace d2 := cell_keep hbel d2
          replace d3 := cell_keep hbel d3
          have hon := fun h => firstE_on (f := termE) hlt h
          have hat := fun h => firstE_at (f := termE) hlt h
          have hw := term_ways l[k]
          generalize l[k] = t at *
          obtain ⟨v, ⟨ck, cn, cs⟩⟩ := t
          simp only at *
          obtain ⟨Z, hZ, hZd, hZl⟩ := nm v
          have hno := noS hZl
          rw [hZ] at d0
          have hbN := hbel.alloc hsz (.cells #[.string Z, .int .i64 ck, .int .i64 cn, .string cs] 201)
          have HKo := HK.out
          clear HK hc
          rcases hw with ⟨h1, h2, h3⟩ | ⟨h1, h2, h3⟩ | ⟨h1, h2, h3⟩ | ⟨h1, h2, h4, h3⟩ | ⟨h1, h2, h4, h3⟩
          · have HN : Hid (firstE termE (l.drop (k + 1)) = x) := hid ((hon h3).symm.trans HKo)
            have hz : Z.toList.isEmpty = true := by rw [hno]; simpa using h1
            have H2 := fun W => hid (val_valid ⟨ck, cn, cs⟩ W h2)
            clear hno hon hat HKo h1 h2 h3 hZ hZd hZl
            go_wp2_with fail
            refine (H2 _).out.mono ?_
            rintro e w1 ⟨rfl, b1⟩
            have hb1 := hbN.trans (b1.mono hbN.size)
            clear H2 b1
            go_wp2
            go_roundw
            case rel => exact ⟨k + 1, by omega, by go_num, HN, hb1⟩
            case measure => simp [intOf]; omega
          · have hx : 4 = x := h3.symm.trans ((hat (by rw [h3]; decide)).symm.trans HKo)
            subst hx
            have hz : Z.toList.isEmpty = true := by rw [hno]; simpa using h1
            have H2 := fun W => hid (val_valid ⟨ck, cn, cs⟩ W h2)
            clear hno hon hat HKo h1 h2 h3 hZ hZd hZl
            go_wp2_with fail
            refine (H2 _).out.mono ?_
            rintro e w1 ⟨rfl, b1⟩
            have hb1 := hbN.trans (b1.mono hbN.size)
            clear H2 b1
            go_wp2
            go_ret
            exact ⟨rfl, hb1⟩
          · have hx : 7 = x := h3.symm.trans ((hat (by rw [h3]; decide)).symm.trans HKo)
            subst hx
            have hz : Z.toList.isEmpty = false := by rw [hno]; simpa using h1
            have H2 := fun W => hid (ast_validS Z W (x := false) (by rw [hZd]; exact h2))
            clear hno hon hat HKo h1 h2 h3 hZ hZd hZl
            go_wp2_with fail
            refine (H2 _).out.mono ?_
            rintro e w1 ⟨rfl, rfl⟩
            clear H2
            go_wp2
            go_ret
            exact ⟨rfl, hbN⟩
          · have HN : Hid (firstE termE (l.drop (k + 1)) = x) := hid ((hon h3).symm.trans HKo)
            have hz : Z.toList.isEmpty = false := by rw [hno]; simpa using h1
            have H2 := fun W => hid (ast_validS Z W (x := true) (by rw [hZd]; exact h2))
            have heq := fun W => eq_val3 ck cn cs 0 0 ⟨#[]⟩ h4 W
            have hgv := guardVal
            clear hno hon hat HKo h1 h2 h3 hZ hZd hZl h4
            go_wp2_with fail
            refine (H2 _).out.mono ?_
            rintro e w1 ⟨rfl, rfl⟩
            clear H2
            go_wp2
            go_roundw
            case rel => exact ⟨k + 1, by omega, by go_num, HN, hbN⟩
            case measure => simp [intOf]; omega
          · have hx : 1 = x := h3.symm.trans ((hat (by rw [h3]; decide)).symm.trans HKo)
            subst hx
            have hz : Z.toList.isEmpty = false := by rw [hno]; simpa using h1
            have H2 := fun W => hid (ast_validS Z W (x := true) (by rw [hZd]; exact h2))
            have heq := fun W => eq_val3 ck cn cs 0 0 ⟨#[]⟩ h4 W
            have hgv := guardVal
            clear hno hon hat HKo h1 h2 h3 hZ hZd hZl h4
            go_wp2_with fail
            refine (H2 _).out.mono ?_
            rintro e w1 ⟨rfl, rfl⟩
            clear H2
            go_wp2
            go_ret
            exact ⟨rfl, hbN⟩
        · have hx : 0 = x := (firstE_end hlt).symm.trans HK.out
          subst hx
          clear HK
          go_wp2
          go_ret
          exact ⟨rfl, hbel⟩

theorem cond_ways (c : Cnd) : (nameB c.v = false ∧ condE c = 7) ∨ (nameB c.v = true ∧ c.op < 0 ∧ condE c = 2) ∨ (nameB c.v = true ∧ 0 ≤ c.op ∧ 5 < c.op ∧ condE c = 2) ∨ (nameB c.v = true ∧ 0 ≤ c.op ∧ c.op ≤ 5 ∧ c.c.valid = false ∧ condE c = 4) ∨ (nameB c.v = true ∧ 0 ≤ c.op ∧ c.op ≤ 5 ∧ c.c.valid = true ∧ condE c = 0) := by
  unfold condE
  cases hn : nameB c.v
  · simp
  · by_cases h0 : c.op < 0
    · simp [h0]
    · by_cases h5 : 5 < c.op
      · simp [h5]; omega
      · cases hv : c.c.valid <;> simp [h0, h5] <;> omega

set_option maxRecDepth 100000 in
set_option maxHeartbeats 8000000 in
theorem ast_checkItems (r : Rul) (T T' : Option Addr) (c c' : Nat) (w : World) (ha : AtmsAt w T r.atoms) (hcn : CndsAt w T' r.conds) (hm : r.atoms.length ≤ 9223372036854775807) (hm' : r.conds.length ≤ 9223372036854775807) {x : Int} (hx : itemsE r = x) :
    Calls Tryz.prog 125 #[.agg #[.slice T r.atoms.length c, .slice T' r.conds.length c']] w fun e w' => e = .returned (.int .i64 x) ∧ Below w.heap.size w w' := by
  obtain ⟨ats, cs⟩ := r
  unfold itemsE at hx
  simp only at hx ha hcn hm hm' ⊢
  have hb0 := below_one w (.cells #[.slice T ats.length c, .slice T' cs.length c'] 142)
  by_cases h0 : ats.length = 0
  · have h0' : ats = [] := List.length_eq_zero_iff.1 h0
    rw [if_pos h0'] at hx
    subst hx h0'
    go_enter Tryz.func125, Tryz.ntmps125
    go_wp2
    go_ret
    exact ⟨rfl, hb0⟩
  · rw [if_neg (fun e => h0 (by rw [e]; rfl))] at hx
    have hpos : 0 < ats.length := by omega
    have bz : ((ats.length : Int) == 0) = false := by rw [beq_eq_false_iff_ne]; omega
    clear h0
    by_cases h8 : 8 < ats.length
    · rw [if_pos (.inl h8)] at hx
      subst hx
      go_enter Tryz.func125, Tryz.ntmps125
      go_wp2
      go_ret
      exact ⟨rfl, hb0⟩
    · by_cases h8' : 8 < cs.length
      · rw [if_pos (.inr h8')] at hx
        subst hx
        go_enter Tryz.func125, Tryz.ntmps125
        go_wp2
        go_ret
        exact ⟨rfl, hb0⟩
      · rw [if_neg (by rintro (h | h); exact h8 h; exact h8' h)] at hx
        have HX := hid hx
        clear hx
        have hs : (⟨w.heap.size, 0, none⟩ : Addr).block < (w.alloc (.cells #[.slice T ats.length c, .slice T' cs.length c'] 142)).heap.size := by simp
        go_enter Tryz.func125, Tryz.ntmps125
        go_wp2
        go_loopw [25] (fun i wr => ∃ k : Nat, k ≤ ats.length ∧ i = .int .i64 k ∧ Hid (firstE atomE ats = firstE atomE (ats.drop k)) ∧ Below w.heap.size w wr ∧ wr.cell? ⟨w.heap.size, 0, none⟩ = some (.slice T ats.length c) ∧ wr.cell? ⟨w.heap.size, 1, none⟩ = some (.slice T' cs.length c') ∧ w.heap.size < wr.heap.size) (fun i _ => ats.length - (intOf i).toNat)
        case atStart => exact ⟨0, by omega, rfl, hid rfl, hb0, by simp, by simp, by simp⟩
        case round =>
          obtain ⟨k, hk, rfl, HK, hbel, e0, e1, hlt0⟩ := hrel
          have hsz := hbel.size
          clear hb0
          by_cases hlt : k < ats.length
          · obtain ⟨bb, o, rfl, hc⟩ := ha (by omega)
            obtain ⟨Q, qc, d0, d1, d2, hq, hql, hqm⟩ := hc k hlt
            replace d0 := cell_keep hbel d0
            replace d1 := cell_keep hbel d1
            replace d2 := cell_keep hbel d2
            replace hq := hq.below hbel
            have hon := fun h => firstE_on (f := atomE) hlt h
            have hat := fun h => firstE_at (f := atomE) hlt h
            generalize ats[k] = a at *
            obtain ⟨y, hy⟩ : ∃ y, atomE a = y := ⟨_, rfl⟩
            rw [hy] at hon hat
            obtain ⟨neg, rel, ts⟩ := a
            simp only at *
            obtain ⟨Y, hY, _, _⟩ := nm rel
            have H1 := fun W h => hid (ast_checkAtom ⟨neg, rel, ts⟩ Q qc W h hqm hy)
            simp only [hY] at H1
            rw [hY] at d1
            have hbN := hbel.alloc hsz (.cells #[.bool neg, .string Y, .slice Q ts.length qc] 188)
            have hqN := hq.below (below_one wr (.cells #[.bool neg, .string Y, .slice Q ts.length qc] 188))
            have HKo := HK.out
            clear HK hc hy hq hY
            by_cases hy0 : y = 0
            · have HN : Hid (firstE atomE ats = firstE atomE (ats.drop (k + 1))) := hid (HKo.trans (hon hy0))
              subst hy0
              clear hon hat HKo
              go_wp2_with fail
              refine (H1 _ hqN).out.mono ?_
              rintro e w1 ⟨rfl, b1⟩
              have hb1 := hbN.trans (b1.mono hbN.size)
              have f0 := cell_keep b1 (cell_keep (below_one wr (.cells #[.bool neg, .string Y, .slice Q ts.length qc] 188)) e0)
              have f1 := cell_keep b1 (cell_keep (below_one wr (.cells #[.bool neg, .string Y, .slice Q ts.length qc] 188)) e1)
              have hs1 : w.heap.size < w1.heap.size := by have := b1.size; simp at this; omega
              clear H1 b1 e0 e1 hqN
              go_wp2
              go_roundw
              case rel => exact ⟨k + 1, by omega, by go_num, HN, hb1, f0, f1, hs1⟩
              case measure => simp [intOf]; omega
            · have hx : y = x := by
                have h1 := hat hy0
                have h2 := HX.out
                rw [HKo, h1, if_neg hy0] at h2
                exact h2
              have by0 : (y != 0) = true := by simpa using hy0
              subst hx
              clear hon hat HKo HX hy0
              go_wp2_with fail
              refine (H1 _ hqN).out.mono ?_
              rintro e w1 ⟨rfl, b1⟩
              have hb1 := hbN.trans (b1.mono hbN.size)
              clear H1 b1 e0 e1 hqN
              go_wp2
              go_ret
              exact ⟨rfl, hb1⟩
          · have h0 : firstE atomE ats = 0 := HK.out.trans (firstE_end hlt)
            have HX2 : Hid (firstE condE (cs.drop 0) = x) := hid (by have h2 := HX.out; rw [if_pos h0] at h2; exact h2)
            clear HX HK h0 ha
            go_wp2
            go_loopw [38] (fun i wq => ∃ k : Nat, k ≤ cs.length ∧ i = .int .i64 k ∧ Hid (firstE condE (cs.drop k) = x) ∧ Below w.heap.size w wq) (fun i _ => cs.length - (intOf i).toNat)
            case atStart => exact ⟨0, by omega, rfl, HX2, hbel⟩
            case round =>
              obtain ⟨j, hj, rfl, HJ, hbelq⟩ := hrel
              have hszq := hbelq.size
              clear HX2 hbel e0 e1 hlt0 hsz
              by_cases hjt : j < cs.length
              · obtain ⟨bb, o, rfl, hc⟩ := hcn (by omega)
                obtain ⟨d0, d1, d2, d3, d4⟩ := hc j hjt
                replace d0 := cell_keep hbelq d0
                replace d1 := cell_keep hbelq d1
                replace d2 := cell_keep hbelq d2
                replace d3 := cell_keep hbelq d3
                replace d4 := cell_keep hbelq d4
                have hon := fun h => firstE_on (f := condE) hjt h
                have hat := fun h => firstE_at (f := condE) hjt h
                have hw := cond_ways cs[j]
                generalize cs[j] = t at *
                obtain ⟨v, op, ⟨ck, cn, ct⟩⟩ := t
                simp only at *
                obtain ⟨Z, hZ, hZd, _⟩ := nm v
                rw [hZ] at d0
                have hbN := hbelq.alloc hszq (.cells #[.string Z, .int .i64 op, .int .i64 ck, .int .i64 cn, .string ct] 192)
                have HKo := HJ.out
                clear HJ hc
                rcases hw with ⟨h1, h3⟩ | ⟨h1, h2, h3⟩ | ⟨h1, h2, h4, h3⟩ | ⟨h1, h2, h4, h5, h3⟩ | ⟨h1, h2, h4, h5, h3⟩
                · have hx : 7 = x := h3.symm.trans ((hat (by rw [h3]; decide)).symm.trans HKo)
                  subst hx
                  have H2 := fun W => hid (ast_validS Z W (x := false) (by rw [hZd]; exact h1))
                  clear hon hat HKo h1 h3 hZ hZd
                  go_wp2_with fail
                  refine (H2 _).out.mono ?_
                  rintro e w1 ⟨rfl, rfl⟩
                  clear H2
                  go_wp2
                  go_ret
                  exact ⟨rfl, hbN⟩
                · have hx : 2 = x := h3.symm.trans ((hat (by rw [h3]; decide)).symm.trans HKo)
                  subst hx
                  have H2 := fun W => hid (ast_validS Z W (x := true) (by rw [hZd]; exact h1))
                  clear hon hat HKo h1 h3 hZ hZd
                  go_wp2_with fail
                  refine (H2 _).out.mono ?_
                  rintro e w1 ⟨rfl, rfl⟩
                  clear H2
                  go_wp2
                  go_ret
                  exact ⟨rfl, hbN⟩
                · have hx : 2 = x := h3.symm.trans ((hat (by rw [h3]; decide)).symm.trans HKo)
                  subst hx
                  have H2 := fun W => hid (ast_validS Z W (x := true) (by rw [hZd]; exact h1))
                  clear hon hat HKo h1 h3 hZ hZd
                  go_wp2_with fail
                  refine (H2 _).out.mono ?_
                  rintro e w1 ⟨rfl, rfl⟩
                  clear H2
                  go_wp2
                  go_ret
                  exact ⟨rfl, hbN⟩
                · have hx : 4 = x := h3.symm.trans ((hat (by rw [h3]; decide)).symm.trans HKo)
                  subst hx
                  have H2 := fun W => hid (ast_validS Z W (x := true) (by rw [hZd]; exact h1))
                  have H3 := fun W => hid (val_valid ⟨ck, cn, ct⟩ W h5)
                  clear hon hat HKo h1 h3 hZ hZd h5
                  go_wp2_with fail
                  refine (H2 _).out.mono ?_
                  rintro e w1 ⟨rfl, rfl⟩
                  clear H2
                  go_wp2_with fail
                  refine (H3 _).out.mono ?_
                  rintro e w1 ⟨rfl, b1⟩
                  have hb1 := hbN.trans (b1.mono hbN.size)
                  clear H3 b1
                  go_wp2
                  go_ret
                  exact ⟨rfl, hb1⟩
                · have HN : Hid (firstE condE (cs.drop (j + 1)) = x) := hid ((hon h3).symm.trans HKo)
                  have H2 := fun W => hid (ast_validS Z W (x := true) (by rw [hZd]; exact h1))
                  have H3 := fun W => hid (val_valid ⟨ck, cn, ct⟩ W h5)
                  clear hon hat HKo h1 h3 hZ hZd h5
                  go_wp2_with fail
                  refine (H2 _).out.mono ?_
                  rintro e w1 ⟨rfl, rfl⟩
                  clear H2
                  go_wp2_with fail
                  refine (H3 _).out.mono ?_
                  rintro e w1 ⟨rfl, b1⟩
                  have hb1 := hbN.trans (b1.mono hbN.size)
                  clear H3 b1
                  go_wp2
                  go_roundw
                  case rel => exact ⟨j + 1, by omega, by go_num, HN, hb1⟩
                  case measure => simp [intOf]; omega
              · have hx : 0 = x := (firstE_end hjt).symm.trans HJ.out
                subst hx
                clear HJ
                go_wp2
                go_ret
                exact ⟨rfl, hbelq⟩
end
end Go.Proofs.YtjhnopnppimnhaaGreatDoor
