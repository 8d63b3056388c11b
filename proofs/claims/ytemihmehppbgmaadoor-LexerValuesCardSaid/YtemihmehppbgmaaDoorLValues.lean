/-
  WALK: ordinallaw18.LexerValues.
-/
import Derived.Test.YtemihmehppbgmaaDoorAwake18
import Derived.Test.YtemihmehppbgmaaDoorTeq
import Derived.Test.YtemihmehppbgmaaDoorText
import Derived.Test.YtemihmehppbgmaaDoorOpenV
namespace Go.Proofs.YtemihmehppbgmaaDoor
open Go.RowKit

theorem cat_list (a b c : List UInt8) : ((⟨a.toArray⟩ : ByteArray) ++ ⟨b.toArray⟩ ++ ⟨c.toArray⟩).data.toList = a ++ (b ++ c) := by
  simp [ByteArray.data_append]

theorem lval_len {v : V} (h : v.wf) (hs : v.s.size ≤ 60) : (textL v).length ≤ 2000 := by
  unfold textL
  split
  · split
    · have := Lib.itoa_length_le v.n h.n.1 h.n.2; omega
    · have := quoteL_le v.s.data.toList
      have hs : v.s.data.toList.length ≤ 60 := by simpa using hs
      omega
  · simp

theorem lval_two {v : V} (hv : v.valid = true) (h1 : ¬ v.k = 1) : v.k = 2 := by
  apply Classical.byContradiction
  intro h2
  simp [V.valid, h1, h2] at hv

theorem value_textB (v : V) (w : World) (hn : I64 v.n) (hs : v.s.size ≤ 100000) (ht : Tab w) {T : ByteArray} (hT : T = ⟨(textL v).toArray⟩) :
    Calls Tryd.prog 15 #[.agg #[.int .i64 v.k, .int .i64 v.n, .string v.s]] w fun e w' => e = .returned (.string T) ∧ Below w.heap.size w w' := by
  subst hT
  exact value_text v w hn hs ht rfl

set_option maxRecDepth 100000 in
set_option maxHeartbeats 2000000 in
theorem law_lvalues (v : V) (hw : v.wf) (w : World) (hE : EnvL w) :
    Calls Tryd.prog 6 #[.agg #[.int .i64 v.k, .int .i64 v.n, .string v.s]] w fun e w' => e = .returned (.bool true) ∧ Below w.heap.size w w' := by
  have k0 : Below w.heap.size w (w.alloc (.cells #[.int .i64 v.k, .int .i64 v.n, .string v.s] 35)) := below_one w _
  have HA := fun W (h : Below w.heap.size w W) => hid (awake18 W (hE.below h))
  have hz0 := heap_alloc_new w (.cells #[.int .i64 v.k, .int .i64 v.n, .string v.s] 35)
  have c00 := cell_res hz0 0
  have c01 := cell_res hz0 1
  have c02 := cell_res hz0 2
  clear hz0
  by_cases hbig : 60 < v.s.size
  · clear hE hw c00 c01 c02
    go_enter Tryd.func6, Tryd.ntmps6
    go_wp2_with fail
    refine (HA _ k0).out.mono ?_
    rintro e w1 ⟨rfl, b1⟩
    have k1 := k0.trans (b1.mono k0.size)
    clear HA
    go_wp2
    go_ret
    exact ⟨rfl, k1⟩
  · have hsz : v.s.size ≤ 60 := by omega
    cases hv : v.valid
    · have H1 := fun W => hid (value_valid v W hv)
      clear hE hw hv c00 c01 c02
      go_enter Tryd.func6, Tryd.ntmps6
      go_wp2_with fail
      refine (H1 _).out.mono ?_
      rintro e w1 ⟨rfl, b1⟩
      have k1 := k0.trans (b1.mono k0.size)
      clear H1 b1 k0
      go_wp2_with fail
      refine (HA _ k1).out.mono ?_
      rintro e w2 ⟨rfl, b2⟩
      have k2 := k1.trans (b2.mono k1.size)
      clear HA
      go_wp2
      go_ret
      exact ⟨rfl, k2⟩
    · have H1 := fun W => hid (value_valid v W hv)
      have hts := lval_len hw hsz
      obtain ⟨T, hT⟩ : ∃ T : ByteArray, T = ⟨(textL v).toArray⟩ := ⟨_, rfl⟩
      have H2 := fun W (h : Below w.heap.size w W) => hid (value_textB v W hw.n (by omega) (hE.below h).env.tab hT)
      have hTs : T.size ≤ 2000 := by rw [hT]; simpa [ByteArray.size] using hts
      have hsc : scanL ((⟨#[40]⟩ : ByteArray) ++ T ++ ⟨#[41]⟩).data.toList = ([⟨4, [40], V0, 0⟩, ⟨if v.k = 1 then 2 else 3, textL v, v, 1⟩, ⟨4, [41], V0, 1 + (textL v).length⟩, ⟨0, [], V0, 1 + (textL v).length + 1⟩], 0, 0) := by
        have e : ((⟨#[40]⟩ : ByteArray) ++ T ++ ⟨#[41]⟩).data.toList = 40 :: (textL v ++ [41]) := by
          rw [hT]; exact cat_list [40] (textL v) [41]
        rw [e]
        exact scanL_sc (by simp; omega) (sc_value hv hw.n)
      have H3 := fun W (h : Below w.heap.size w W) => hid (lex_scan ((⟨#[40]⟩ : ByteArray) ++ T ++ ⟨#[41]⟩) W (hE.below h) (by rw [ByteArray.size_append, ByteArray.size_append]; have e1 : (⟨#[40]⟩ : ByteArray).size = 1 := rfl; have e2 : (⟨#[41]⟩ : ByteArray).size = 1 := rfl; omega) hsc)
      have EQ := fun k => eq_tok k T v 1
      have GV := guardTok
      have HT := hid hT
      clear hts hsc hT
      by_cases h1 : v.k = 1
      · have bk : (v.k == 2) = false := by rw [h1]; rfl
        rw [if_pos h1] at H3
        have EQ2 := EQ 2
        clear hE hw hv EQ h1
        go_enter Tryd.func6, Tryd.ntmps6
        go_wp2_with fail
        refine (H1 _).out.mono ?_
        rintro e w1 ⟨rfl, b1⟩
        have k1 := k0.trans (b1.mono k0.size)
        replace c00 := cell_keep b1 c00
        replace c01 := cell_keep b1 c01
        replace c02 := cell_keep b1 c02
        clear H1 b1 k0
        go_wp2_with fail
        refine (H2 _ k1).out.mono ?_
        rintro e w2 ⟨rfl, b2⟩
        have k2 := k1.trans (b2.mono k1.size)
        replace c00 := cell_keep b2 c00
        replace c01 := cell_keep b2 c01
        replace c02 := cell_keep b2 c02
        clear H2 b2 k1
        go_wp2_with fail
        refine (H3 _ k2).out.mono ?_
        rintro e w3 ⟨A, c, rfl, hTA, hc, b3⟩
        have k3 := k2.trans (b3.mono k2.size)
        replace c00 := cell_keep b3 c00
        replace c01 := cell_keep b3 c01
        replace c02 := cell_keep b3 c02
        clear H3 b3 k2
        have hc4 : 4 ≤ c := by simpa using hc
        clear hc
        obtain ⟨b, o, rfl, hcell⟩ := hTA (by simp)
        have d := hcell 1 (by simp)
        have d0 : w3.cell? ⟨b, o + 6, none⟩ = some (.int .i64 2) := d.1
        have d1 : w3.cell? ⟨b, o + 6 + 1, none⟩ = some (.string T) := by rw [HT.out]; exact d.2.1
        have d2 : w3.cell? ⟨b, o + 6 + 2, none⟩ = some (.int .i64 v.k) := d.2.2.1
        have d3 : w3.cell? ⟨b, o + 6 + 3, none⟩ = some (.int .i64 v.n) := d.2.2.2.1
        have d4 : w3.cell? ⟨b, o + 6 + 4, none⟩ = some (.string v.s) := d.2.2.2.2.1
        have d5 : w3.cell? ⟨b, o + 6 + 5, none⟩ = some (.int .i64 1) := d.2.2.2.2.2
        clear d hcell hTA HT
        go_wp2_with fail
        go_still_tail 18, (by kernel_rfl)
        change wpList _ _ _ _ _ w3.drew
        have k3' := k3.drew
        generalize w3.drew = w4 at *
        go_wp2_with fail
        refine (HA _ k3').out.mono ?_
        rintro e w5 ⟨rfl, b5⟩
        have k5 := k3'.trans (b5.mono k3'.size)
        clear HA
        go_wp2
        go_ret
        exact ⟨rfl, k5⟩
      · have bk : (v.k == 2) = true := by simpa using lval_two hv h1
        rw [if_neg h1] at H3
        have EQ2 := EQ 3
        clear hE hw hv EQ h1
        go_enter Tryd.func6, Tryd.ntmps6
        go_wp2_with fail
        refine (H1 _).out.mono ?_
        rintro e w1 ⟨rfl, b1⟩
        have k1 := k0.trans (b1.mono k0.size)
        replace c00 := cell_keep b1 c00
        replace c01 := cell_keep b1 c01
        replace c02 := cell_keep b1 c02
        clear H1 b1 k0
        go_wp2_with fail
        refine (H2 _ k1).out.mono ?_
        rintro e w2 ⟨rfl, b2⟩
        have k2 := k1.trans (b2.mono k1.size)
        replace c00 := cell_keep b2 c00
        replace c01 := cell_keep b2 c01
        replace c02 := cell_keep b2 c02
        clear H2 b2 k1
        go_wp2_with fail
        refine (H3 _ k2).out.mono ?_
        rintro e w3 ⟨A, c, rfl, hTA, hc, b3⟩
        have k3 := k2.trans (b3.mono k2.size)
        replace c00 := cell_keep b3 c00
        replace c01 := cell_keep b3 c01
        replace c02 := cell_keep b3 c02
        clear H3 b3 k2
        have hc4 : 4 ≤ c := by simpa using hc
        clear hc
        obtain ⟨b, o, rfl, hcell⟩ := hTA (by simp)
        have d := hcell 1 (by simp)
        have d0 : w3.cell? ⟨b, o + 6, none⟩ = some (.int .i64 3) := d.1
        have d1 : w3.cell? ⟨b, o + 6 + 1, none⟩ = some (.string T) := by rw [HT.out]; exact d.2.1
        have d2 : w3.cell? ⟨b, o + 6 + 2, none⟩ = some (.int .i64 v.k) := d.2.2.1
        have d3 : w3.cell? ⟨b, o + 6 + 3, none⟩ = some (.int .i64 v.n) := d.2.2.2.1
        have d4 : w3.cell? ⟨b, o + 6 + 4, none⟩ = some (.string v.s) := d.2.2.2.2.1
        have d5 : w3.cell? ⟨b, o + 6 + 5, none⟩ = some (.int .i64 1) := d.2.2.2.2.2
        clear d hcell hTA HT
        go_wp2_with fail
        go_still_tail 18, (by kernel_rfl)
        change wpList _ _ _ _ _ w3.drew
        have k3' := k3.drew
        generalize w3.drew = w4 at *
        go_wp2_with fail
        refine (HA _ k3').out.mono ?_
        rintro e w5 ⟨rfl, b5⟩
        have k5 := k3'.trans (b5.mono k3'.size)
        clear HA
        go_wp2
        go_ret
        exact ⟨rfl, k5⟩
end Go.Proofs.YtemihmehppbgmaaDoor
