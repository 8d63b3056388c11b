/-
  WALK: ordinallaw18.awake (the examples of chapter 18).
-/
import Derived.Test.YtemihmehppbgmaaDoorLw4
import Derived.Test.YtemihmehppbgmaaDoorVeq
namespace Go.Proofs.YtemihmehppbgmaaDoor
open Go.RowKit

theorem ex_scan' : scanL (ByteArray.mk #[97, 110, 115, 40, 120, 41, 32, 58, 45, 32, 114, 40, 120, 44, 45, 53, 41, 44, 32, 120, 32, 33, 61, 32, 34, 97, 34]).data.toList = (exToks, 0, 0) := ex_scan
theorem ex_bad' : scanL (ByteArray.mk #[120, 32, 45, 32, 49]).data.toList = ([], 2, 15) := ex_bad

set_option maxRecDepth 100000 in
set_option maxHeartbeats 1000000 in
theorem awake18 (w : World) (hE : EnvL w) : Calls Tryd.prog 10 #[] w fun e w' => e = .returned (.bool true) ∧ Below w.heap.size w w' := by
  have H1 := fun W (h : Below w.heap.size w W) => hid (lex_scan ⟨#[97, 110, 115, 40, 120, 41, 32, 58, 45, 32, 114, 40, 120, 44, 45, 53, 41, 44, 32, 120, 32, 33, 61, 32, 34, 97, 34]⟩ W (hE.below h) (by decide) ex_scan')
  have H2 := fun W (h : Below w.heap.size w W) => hid (lex_scan ⟨#[120, 32, 45, 32, 49]⟩ W (hE.below h) (by decide) ex_bad')
  have EQ := eq_val3 1 (-5) ⟨#[]⟩ 1 (-5) ⟨#[]⟩ (x := true) (veq_iff.2 rfl)
  have GV := guardVal
  clear hE
  go_enter Tryd.func10, Tryd.ntmps10
  go_wp2_with fail
  refine (H1 _ (Below.refl _ _)).out.mono ?_
  rintro e w1 ⟨A, c, rfl, hT, hc, k1⟩
  obtain ⟨b, o, rfl, hcell⟩ := hT (by decide)
  have d4 : w1.cell? ⟨b, o + 24 + 1, none⟩ = some (.string ⟨#[58, 45]⟩) := (hcell 4 (by decide)).2.1
  have d9a : w1.cell? ⟨b, o + 54 + 2, none⟩ = some (.int .i64 1) := (hcell 9 (by decide)).2.2.1
  have d9b : w1.cell? ⟨b, o + 54 + 3, none⟩ = some (.int .i64 (-5)) := (hcell 9 (by decide)).2.2.2.1
  have d9c : w1.cell? ⟨b, o + 54 + 4, none⟩ = some (.string ⟨#[]⟩) := (hcell 9 (by decide)).2.2.2.2.1
  have d15 : w1.cell? ⟨b, o + 90, none⟩ = some (.int .i64 0) := (hcell 15 (by decide)).1
  have hlen : exToks.length = 16 := rfl
  have hc' : 16 ≤ c := hc
  rw [hlen]
  clear hT hcell hlen hc H1
  go_wp2_with fail
  refine (H2 _ k1).out.mono ?_
  rintro e w2 ⟨A2, c2, rfl, _, _, b2⟩
  have k2 := k1.trans (b2.mono k1.size)
  replace d4 := cell_keep b2 d4
  replace d9a := cell_keep b2 d9a
  replace d9b := cell_keep b2 d9b
  replace d9c := cell_keep b2 d9c
  replace d15 := cell_keep b2 d15
  clear H2 b2 k1
  go_wp2
  go_ret
  exact ⟨rfl, k2⟩
end Go.Proofs.YtemihmehppbgmaaDoor
