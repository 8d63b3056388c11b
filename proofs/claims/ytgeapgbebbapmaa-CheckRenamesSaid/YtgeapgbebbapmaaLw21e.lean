/-
  WALK: the law's awake: true, and no memory from before the call is changed; no condition.
-/
import Derived.Test.YtgeapgbebbapmaaAwk2
import Derived.Test.YtgeapgbebbapmaaLw21b
import Derived.Deep.QuietTactic
import Derived.BigQuiet
import Derived.Deep.RegionLaw
import Derived.Deep.DeepCutAuto
namespace Go.Proofs.Ytgeapgbebbapmaa
open Go.RowKit

set_option maxRecDepth 100000 in
set_option maxHeartbeats 16000000 in
theorem law_awake (w : World) : Hid (Calls Try.prog 12 #[] w fun e w' => e = .returned (.bool true) ∧ Below w.heap.size w w') := by
  refine hid ?_
  go_enter Try.func12, Try.ntmps12
  go_upto_region 4 with fail
  have hbw := w5_below w
  have hsw := w5_size w
  have hschs := w5_schs w
  have htrms := w5_trms w
  obtain ⟨_, _, _, h3, h4⟩ := w5_heap w
  unfold W5 at hbw hsw hschs htrms h3 h4
  generalize ((((w.alloc (.cells #[.int .i64 1, .int .i64 2] 3)).alloc (.cells #[.string ⟨#[114]⟩, .slice (some ⟨w.heap.size, 0, none⟩) 2 2] 61)).alloc (.cells #[.string ⟨#[120]⟩, .int .i64 0, .int .i64 0, .string ⟨#[]⟩, .string ⟨#[]⟩, .int .i64 2, .int .i64 0, .string ⟨#[97]⟩] 81)).alloc (.cells #[.bool true, .string ⟨#[114]⟩, .slice (some ⟨w.heap.size + 1 + 1, 0, none⟩) 2 2] 51)).alloc (.cells #[.string ⟨#[121]⟩, .int .i64 1, .int .i64 2, .int .i64 0, .string ⟨#[98]⟩] 79) = wa at *
  have HB1 := hid hbw
  have HS1 := hid hschs
  have HT1 := hid htrms
  have HZ := hid hsw
  have g0 : Hid (wa.cell? ⟨w.heap.size + 1 + 1 + 1, 0, none⟩ = some (.bool true)) := cell_of_heap h3 rfl
  have g1 : Hid (wa.cell? ⟨w.heap.size + 1 + 1 + 1, 1, none⟩ = some (.string ⟨#[114]⟩)) := cell_of_heap h3 rfl
  have g2 : Hid (wa.cell? ⟨w.heap.size + 1 + 1 + 1, 2, none⟩ = some (.slice (some ⟨w.heap.size + 1 + 1, 0, none⟩) 2 2)) := cell_of_heap h3 rfl
  have k0 : Hid (wa.cell? ⟨w.heap.size + 1 + 1 + 1 + 1, 0, none⟩ = some (.string ⟨#[121]⟩)) := cell_of_heap h4 rfl
  have k1 : Hid (wa.cell? ⟨w.heap.size + 1 + 1 + 1 + 1, 1, none⟩ = some (.int .i64 1)) := cell_of_heap h4 rfl
  have k2 : Hid (wa.cell? ⟨w.heap.size + 1 + 1 + 1 + 1, 2, none⟩ = some (.int .i64 2)) := cell_of_heap h4 rfl
  have k3 : Hid (wa.cell? ⟨w.heap.size + 1 + 1 + 1 + 1, 3, none⟩ = some (.int .i64 0)) := cell_of_heap h4 rfl
  have k4 : Hid (wa.cell? ⟨w.heap.size + 1 + 1 + 1 + 1, 4, none⟩ = some (.string ⟨#[98]⟩)) := cell_of_heap h4 rfl
  clear hbw hschs htrms h3 h4 hsw
  refine wp_region_inv2 (fun d ac w9 => ∃ x21 x22 x23 x24 x25 x26 x27 x28 x29 x30 x4 : Value, ac = { tmps := #[.bool false, .slice (some ⟨w.heap.size + 1, 0, none⟩) 1 1, .pointer (some ⟨w.heap.size + 1 + 1 + 1, 0, none⟩), .pointer (some ⟨w.heap.size + 1 + 1 + 1 + 1, 0, none⟩), x4, undef, undef, undef, undef, undef, undef, .slice (some ⟨w.heap.size, 0, none⟩) 2 2, .agg #[.string ⟨#[114]⟩, .slice (some ⟨w.heap.size, 0, none⟩) 2 2], .slice (some ⟨w.heap.size + 1, 0, none⟩) 1 1, .agg #[.string ⟨#[120]⟩, .int .i64 0, .int .i64 0, .string ⟨#[]⟩], .agg #[.int .i64 2, .int .i64 0, .string ⟨#[97]⟩], .agg #[.string ⟨#[]⟩, .int .i64 2, .int .i64 0, .string ⟨#[97]⟩], .slice (some ⟨w.heap.size + 1 + 1, 0, none⟩) 2 2, .agg #[.bool true, .string ⟨#[114]⟩, .slice (some ⟨w.heap.size + 1 + 1, 0, none⟩) 2 2], .agg #[.int .i64 2, .int .i64 0, .string ⟨#[98]⟩], .agg #[.string ⟨#[121]⟩, .int .i64 1, .int .i64 2, .int .i64 0, .string ⟨#[98]⟩], x21, x22, x23, x24, x25, x26, x27, x28, x29, x30, undef, undef, undef, undef, undef, undef, undef, undef, undef, undef, undef, undef, undef, undef, undef, undef, undef, undef, undef, undef, undef, undef, undef, undef, undef, undef, undef, undef, undef, undef, undef, undef, undef, undef, undef, undef, undef, undef, undef, undef, undef, undef, undef, undef, undef, undef, undef, undef, undef], defers := [] } ∧ ((d 11 = false ∧ Hid (Below wa.heap.size wa w9) ∧ Hid (d 0 = true → fNm [[120]] x21 w9) ∧ Hid (d 1 = true → fNm [[120], [121]] x22 w9) ∧ Hid (d 2 = true → fAt x23 w9) ∧ Hid (d 3 = true → fEq (.agg #[.bool true, .string ⟨#[114]⟩, .slice (some ⟨w.heap.size + 1 + 1, 0, none⟩) 2 2]) x24 w9) ∧ Hid (d 4 = true → fAs x25 w9) ∧ Hid (d 5 = true → fEq (.agg #[.string ⟨#[121]⟩, .int .i64 1, .int .i64 2, .int .i64 0, .string ⟨#[98]⟩]) x26 w9) ∧ Hid (d 6 = true → fCs x27 w9) ∧ Hid (d 7 = true → fRl x28 w9) ∧ Hid (d 8 = true → fRs x29 w9) ∧ Hid (d 9 = true → fQ x30 w9) ∧ Hid (d 10 = true → fBx wa.heap.size x4 w9)) ∨ (d 11 = true ∧ Hid (Below wa.heap.size wa w9) ∧ Hid (fEnd w9 x4)))) (by kernel_rfl) (by kernel_rfl) ?h0 ?hst ?fin
  case h0 => exact ⟨_, _, _, _, _, _, _, _, _, _, _, rfl, .inl ⟨rfl, hid (Below.drew (Below.refl _ _)), fun h => absurd h (by decide), fun h => absurd h (by decide), fun h => absurd h (by decide), fun h => absurd h (by decide), fun h => absurd h (by decide), fun h => absurd h (by decide), fun h => absurd h (by decide), fun h => absurd h (by decide), fun h => absurd h (by decide), fun h => absurd h (by decide), fun h => absurd h (by decide)⟩⟩
  case hst =>
    refine ⟨?_, ?_, ?_, ?_, ?_, ?_, ?_, ?_, ?_, ?_, ?_, ?_, trivial⟩
    · rintro d ac w9 ⟨x21, x22, x23, x24, x25, x26, x27, x28, x29, x30, x4, rfl, hI⟩ hcl hdk haft
      rcases hI with ⟨hd11, HB, f0, f1, f2, f3, f4, f5, f6, f7, f8, f9, f10⟩ | ⟨hd11, _, _⟩
      rotate_left
      · exact absurd ((hcl 9 _ rfl (hcl 11 _ rfl hd11 ⟨9, .data⟩ (by simp) rfl) ⟨0, .data⟩ (by simp) rfl).symm.trans hdk) (by decide)
      have hdz := hid hd11
      clear  hdk haft hcl hd11
      go_wp2
      exact thenK_n ⟨_, _, _, _, _, _, _, _, _, _, _, rfl, .inl ⟨kd rfl hdz, hid (HB.out.trans ((below_one w9 _).mono HB.out.size)), nf (⟨_, rfl, nms_new w9 _ _⟩), kf rfl f1 (·.below (below_one w9 _)), kf rfl f2 (·.below (below_one w9 _)), kf rfl f3 (·.below (below_one w9 _)), kf rfl f4 (·.below (below_one w9 _)), kf rfl f5 (·.below (below_one w9 _)), kf rfl f6 (·.below (below_one w9 _)), kf rfl f7 (·.below (below_one w9 _)), kf rfl f8 (·.below (below_one w9 _)), kf rfl f9 (·.below (below_one w9 _)), kf rfl f10 (·.below (below_one w9 _))⟩⟩
    · rintro d ac w9 ⟨x21, x22, x23, x24, x25, x26, x27, x28, x29, x30, x4, rfl, hI⟩ hcl hdk haft
      rcases hI with ⟨hd11, HB, f0, f1, f2, f3, f4, f5, f6, f7, f8, f9, f10⟩ | ⟨hd11, _, _⟩
      rotate_left
      · exact absurd ((hcl 2 _ rfl (hcl 4 _ rfl (hcl 7 _ rfl (hcl 8 _ rfl (hcl 9 _ rfl (hcl 11 _ rfl hd11 ⟨9, .data⟩ (by simp) rfl) ⟨8, .data⟩ (by simp) rfl) ⟨7, .data⟩ (by simp) rfl) ⟨4, .data⟩ (by simp) rfl) ⟨2, .data⟩ (by simp) rfl) ⟨1, .data⟩ (by simp) rfl).symm.trans hdk) (by decide)
      have hdz := hid hd11
      clear  hdk haft hcl hd11
      go_wp2
      exact thenK_n ⟨_, _, _, _, _, _, _, _, _, _, _, rfl, .inl ⟨kd rfl hdz, hid (HB.out.trans ((below_one w9 _).mono HB.out.size)), kf rfl f0 (·.below (below_one w9 _)), nf (⟨_, rfl, nms_new w9 _ _⟩), kf rfl f2 (·.below (below_one w9 _)), kf rfl f3 (·.below (below_one w9 _)), kf rfl f4 (·.below (below_one w9 _)), kf rfl f5 (·.below (below_one w9 _)), kf rfl f6 (·.below (below_one w9 _)), kf rfl f7 (·.below (below_one w9 _)), kf rfl f8 (·.below (below_one w9 _)), kf rfl f9 (·.below (below_one w9 _)), kf rfl f10 (·.below (below_one w9 _))⟩⟩
    · rintro d ac w9 ⟨x21, x22, x23, x24, x25, x26, x27, x28, x29, x30, x4, rfl, hI⟩ hcl hdk haft
      rcases hI with ⟨hd11, HB, f0, f1, f2, f3, f4, f5, f6, f7, f8, f9, f10⟩ | ⟨hd11, _, _⟩
      rotate_left
      · exact absurd ((hcl 4 _ rfl (hcl 7 _ rfl (hcl 8 _ rfl (hcl 9 _ rfl (hcl 11 _ rfl hd11 ⟨9, .data⟩ (by simp) rfl) ⟨8, .data⟩ (by simp) rfl) ⟨7, .data⟩ (by simp) rfl) ⟨4, .data⟩ (by simp) rfl) ⟨2, .data⟩ (by simp) rfl).symm.trans hdk) (by decide)
      have h1 := haft ⟨1, .data⟩ (by simp) rfl
      have e1 := f1 h1
      obtain ⟨b1, rfl, hn1⟩ := e1
      have Hhn1 := hid hn1
      clear hn1
      have hdz := hid hd11
      clear h1 hdk haft hcl hd11
      go_wp2_with fail
      refine (law_atom false _ [[120], [121]] _ _ _ Hhn1.out (by decide)).mono ?_
      rintro e w8 ⟨T, c, rfl, hT, hc, hb8⟩
      go_wp2
      exact thenK_n ⟨_, _, _, _, _, _, _, _, _, _, _, rfl, .inl ⟨kd rfl hdz, hid (HB.out.trans (hb8.mono HB.out.size)), kf rfl f0 (·.below hb8), kf rfl f1 (·.below hb8), nf (⟨T, c, rfl, hT, hc⟩), kf rfl f3 (·.below hb8), kf rfl f4 (·.below hb8), kf rfl f5 (·.below hb8), kf rfl f6 (·.below hb8), kf rfl f7 (·.below hb8), kf rfl f8 (·.below hb8), kf rfl f9 (·.below hb8), kf rfl f10 (·.below hb8)⟩⟩
    · rintro d ac w9 ⟨x21, x22, x23, x24, x25, x26, x27, x28, x29, x30, x4, rfl, hI⟩ hcl hdk haft
      rcases hI with ⟨hd11, HB, f0, f1, f2, f3, f4, f5, f6, f7, f8, f9, f10⟩ | ⟨hd11, _, _⟩
      rotate_left
      · exact absurd ((hcl 4 _ rfl (hcl 7 _ rfl (hcl 8 _ rfl (hcl 9 _ rfl (hcl 11 _ rfl hd11 ⟨9, .data⟩ (by simp) rfl) ⟨8, .data⟩ (by simp) rfl) ⟨7, .data⟩ (by simp) rfl) ⟨4, .data⟩ (by simp) rfl) ⟨3, .data⟩ (by simp) rfl).symm.trans hdk) (by decide)
      have hdz := hid hd11
      clear  hdk haft hcl hd11
      have g09 := cell_keep HB.out g0.out
      have g19 := cell_keep HB.out g1.out
      have g29 := cell_keep HB.out g2.out
      have hl3 : w.heap.size + 1 + 1 + 1 < w9.heap.size := by have := HZ.out; have := HB.out.size; omega
      have hl4 : w.heap.size + 1 + 1 + 1 + 1 < w9.heap.size := by have := HZ.out; have := HB.out.size; omega
      go_wp2
      exact thenK_n ⟨_, _, _, _, _, _, _, _, _, _, _, rfl, .inl ⟨kd rfl hdz, hid (HB.out.trans ((Below.refl w9.heap.size w9).mono HB.out.size)), kf rfl f0 (·.below (Below.refl w9.heap.size w9)), kf rfl f1 (·.below (Below.refl w9.heap.size w9)), kf rfl f2 (·.below (Below.refl w9.heap.size w9)), nf (rfl), kf rfl f4 (·.below (Below.refl w9.heap.size w9)), kf rfl f5 (·.below (Below.refl w9.heap.size w9)), kf rfl f6 (·.below (Below.refl w9.heap.size w9)), kf rfl f7 (·.below (Below.refl w9.heap.size w9)), kf rfl f8 (·.below (Below.refl w9.heap.size w9)), kf rfl f9 (·.below (Below.refl w9.heap.size w9)), kf rfl f10 (·.below (Below.refl w9.heap.size w9))⟩⟩
    · rintro d ac w9 ⟨x21, x22, x23, x24, x25, x26, x27, x28, x29, x30, x4, rfl, hI⟩ hcl hdk haft
      rcases hI with ⟨hd11, HB, f0, f1, f2, f3, f4, f5, f6, f7, f8, f9, f10⟩ | ⟨hd11, _, _⟩
      rotate_left
      · exact absurd ((hcl 7 _ rfl (hcl 8 _ rfl (hcl 9 _ rfl (hcl 11 _ rfl hd11 ⟨9, .data⟩ (by simp) rfl) ⟨8, .data⟩ (by simp) rfl) ⟨7, .data⟩ (by simp) rfl) ⟨4, .data⟩ (by simp) rfl).symm.trans hdk) (by decide)
      have h2 := haft ⟨2, .data⟩ (by simp) rfl
      have h3 := haft ⟨3, .data⟩ (by simp) rfl
      have e2 := f2 h2
      obtain ⟨T2, c2, rfl, hn2, hc2⟩ := e2
      have e3 := f3 h3
      obtain rfl := e3
      have Hhn2 := hid hn2
      clear hn2
      have hdz := hid hd11
      clear h2 h3 hdk haft hcl hd11
      have HTT := hid (HT1.out.below HB.out)
      go_wp2
      exact thenK_n ⟨_, _, _, _, _, _, _, _, _, _, _, rfl, .inl ⟨kd rfl hdz, hid (HB.out.trans ((below_one w9 _).mono HB.out.size)), kf rfl f0 (·.below (below_one w9 _)), kf rfl f1 (·.below (below_one w9 _)), kf rfl f2 (·.below (below_one w9 _)), kf rfl f3 (·.below (below_one w9 _)), nf (⟨_, rfl, as_new Hhn2.out hc2 HTT.out⟩), kf rfl f5 (·.below (below_one w9 _)), kf rfl f6 (·.below (below_one w9 _)), kf rfl f7 (·.below (below_one w9 _)), kf rfl f8 (·.below (below_one w9 _)), kf rfl f9 (·.below (below_one w9 _)), kf rfl f10 (·.below (below_one w9 _))⟩⟩
    · rintro d ac w9 ⟨x21, x22, x23, x24, x25, x26, x27, x28, x29, x30, x4, rfl, hI⟩ hcl hdk haft
      rcases hI with ⟨hd11, HB, f0, f1, f2, f3, f4, f5, f6, f7, f8, f9, f10⟩ | ⟨hd11, _, _⟩
      rotate_left
      · exact absurd ((hcl 6 _ rfl (hcl 7 _ rfl (hcl 8 _ rfl (hcl 9 _ rfl (hcl 11 _ rfl hd11 ⟨9, .data⟩ (by simp) rfl) ⟨8, .data⟩ (by simp) rfl) ⟨7, .data⟩ (by simp) rfl) ⟨6, .data⟩ (by simp) rfl) ⟨5, .data⟩ (by simp) rfl).symm.trans hdk) (by decide)
      have hdz := hid hd11
      clear  hdk haft hcl hd11
      have k09 := cell_keep HB.out k0.out
      have k19 := cell_keep HB.out k1.out
      have k29 := cell_keep HB.out k2.out
      have k39 := cell_keep HB.out k3.out
      have k49 := cell_keep HB.out k4.out
      have hl3 : w.heap.size + 1 + 1 + 1 < w9.heap.size := by have := HZ.out; have := HB.out.size; omega
      have hl4 : w.heap.size + 1 + 1 + 1 + 1 < w9.heap.size := by have := HZ.out; have := HB.out.size; omega
      go_wp2
      exact thenK_n ⟨_, _, _, _, _, _, _, _, _, _, _, rfl, .inl ⟨kd rfl hdz, hid (HB.out.trans ((Below.refl w9.heap.size w9).mono HB.out.size)), kf rfl f0 (·.below (Below.refl w9.heap.size w9)), kf rfl f1 (·.below (Below.refl w9.heap.size w9)), kf rfl f2 (·.below (Below.refl w9.heap.size w9)), kf rfl f3 (·.below (Below.refl w9.heap.size w9)), kf rfl f4 (·.below (Below.refl w9.heap.size w9)), nf (rfl), kf rfl f6 (·.below (Below.refl w9.heap.size w9)), kf rfl f7 (·.below (Below.refl w9.heap.size w9)), kf rfl f8 (·.below (Below.refl w9.heap.size w9)), kf rfl f9 (·.below (Below.refl w9.heap.size w9)), kf rfl f10 (·.below (Below.refl w9.heap.size w9))⟩⟩
    · rintro d ac w9 ⟨x21, x22, x23, x24, x25, x26, x27, x28, x29, x30, x4, rfl, hI⟩ hcl hdk haft
      rcases hI with ⟨hd11, HB, f0, f1, f2, f3, f4, f5, f6, f7, f8, f9, f10⟩ | ⟨hd11, _, _⟩
      rotate_left
      · exact absurd ((hcl 7 _ rfl (hcl 8 _ rfl (hcl 9 _ rfl (hcl 11 _ rfl hd11 ⟨9, .data⟩ (by simp) rfl) ⟨8, .data⟩ (by simp) rfl) ⟨7, .data⟩ (by simp) rfl) ⟨6, .data⟩ (by simp) rfl).symm.trans hdk) (by decide)
      have h5 := haft ⟨5, .data⟩ (by simp) rfl
      have e5 := f5 h5
      obtain rfl := e5
      have hdz := hid hd11
      clear h5 hdk haft hcl hd11
      go_wp2
      exact thenK_n ⟨_, _, _, _, _, _, _, _, _, _, _, rfl, .inl ⟨kd rfl hdz, hid (HB.out.trans ((below_one w9 _).mono HB.out.size)), kf rfl f0 (·.below (below_one w9 _)), kf rfl f1 (·.below (below_one w9 _)), kf rfl f2 (·.below (below_one w9 _)), kf rfl f3 (·.below (below_one w9 _)), kf rfl f4 (·.below (below_one w9 _)), kf rfl f5 (·.below (below_one w9 _)), nf (⟨_, rfl, cs_new w9⟩), kf rfl f7 (·.below (below_one w9 _)), kf rfl f8 (·.below (below_one w9 _)), kf rfl f9 (·.below (below_one w9 _)), kf rfl f10 (·.below (below_one w9 _))⟩⟩
    · rintro d ac w9 ⟨x21, x22, x23, x24, x25, x26, x27, x28, x29, x30, x4, rfl, hI⟩ hcl hdk haft
      rcases hI with ⟨hd11, HB, f0, f1, f2, f3, f4, f5, f6, f7, f8, f9, f10⟩ | ⟨hd11, _, _⟩
      rotate_left
      · exact absurd ((hcl 8 _ rfl (hcl 9 _ rfl (hcl 11 _ rfl hd11 ⟨9, .data⟩ (by simp) rfl) ⟨8, .data⟩ (by simp) rfl) ⟨7, .data⟩ (by simp) rfl).symm.trans hdk) (by decide)
      have h4 := haft ⟨4, .data⟩ (by simp) rfl
      have h6 := haft ⟨6, .data⟩ (by simp) rfl
      have e4 := f4 h4
      obtain ⟨b4, rfl, hn4⟩ := e4
      have e6 := f6 h6
      obtain ⟨b6, rfl, hn6⟩ := e6
      have Hhn4 := hid hn4
      have Hhn6 := hid hn6
      clear hn4 hn6
      have hdz := hid hd11
      clear h4 h6 hdk haft hcl hd11
      go_wp2
      exact thenK_n ⟨_, _, _, _, _, _, _, _, _, _, _, rfl, .inl ⟨kd rfl hdz, hid (HB.out.trans ((Below.refl w9.heap.size w9).mono HB.out.size)), kf rfl f0 (·.below (Below.refl w9.heap.size w9)), kf rfl f1 (·.below (Below.refl w9.heap.size w9)), kf rfl f2 (·.below (Below.refl w9.heap.size w9)), kf rfl f3 (·.below (Below.refl w9.heap.size w9)), kf rfl f4 (·.below (Below.refl w9.heap.size w9)), kf rfl f5 (·.below (Below.refl w9.heap.size w9)), kf rfl f6 (·.below (Below.refl w9.heap.size w9)), nf (⟨_, _, rfl, Hhn4.out, Hhn6.out⟩), kf rfl f8 (·.below (Below.refl w9.heap.size w9)), kf rfl f9 (·.below (Below.refl w9.heap.size w9)), kf rfl f10 (·.below (Below.refl w9.heap.size w9))⟩⟩
    · rintro d ac w9 ⟨x21, x22, x23, x24, x25, x26, x27, x28, x29, x30, x4, rfl, hI⟩ hcl hdk haft
      rcases hI with ⟨hd11, HB, f0, f1, f2, f3, f4, f5, f6, f7, f8, f9, f10⟩ | ⟨hd11, _, _⟩
      rotate_left
      · exact absurd ((hcl 9 _ rfl (hcl 11 _ rfl hd11 ⟨9, .data⟩ (by simp) rfl) ⟨8, .data⟩ (by simp) rfl).symm.trans hdk) (by decide)
      have h7 := haft ⟨7, .data⟩ (by simp) rfl
      have e7 := f7 h7
      obtain ⟨bA7, bC7, rfl, hn7, hm7⟩ := e7
      have Hhn7 := hid hn7
      have Hhm7 := hid hm7
      clear hn7 hm7
      have hdz := hid hd11
      clear h7 hdk haft hcl hd11
      go_wp2
      exact thenK_n ⟨_, _, _, _, _, _, _, _, _, _, _, rfl, .inl ⟨kd rfl hdz, hid (HB.out.trans ((below_one w9 _).mono HB.out.size)), kf rfl f0 (·.below (below_one w9 _)), kf rfl f1 (·.below (below_one w9 _)), kf rfl f2 (·.below (below_one w9 _)), kf rfl f3 (·.below (below_one w9 _)), kf rfl f4 (·.below (below_one w9 _)), kf rfl f5 (·.below (below_one w9 _)), kf rfl f6 (·.below (below_one w9 _)), kf rfl f7 (·.below (below_one w9 _)), nf (⟨_, rfl, rs_new Hhn7.out Hhm7.out⟩), kf rfl f9 (·.below (below_one w9 _)), kf rfl f10 (·.below (below_one w9 _))⟩⟩
    · rintro d ac w9 ⟨x21, x22, x23, x24, x25, x26, x27, x28, x29, x30, x4, rfl, hI⟩ hcl hdk haft
      rcases hI with ⟨hd11, HB, f0, f1, f2, f3, f4, f5, f6, f7, f8, f9, f10⟩ | ⟨hd11, _, _⟩
      rotate_left
      · exact absurd ((hcl 11 _ rfl hd11 ⟨9, .data⟩ (by simp) rfl).symm.trans hdk) (by decide)
      have h0 := haft ⟨0, .data⟩ (by simp) rfl
      have h8 := haft ⟨8, .data⟩ (by simp) rfl
      have e0 := f0 h0
      obtain ⟨b0, rfl, hn0⟩ := e0
      have e8 := f8 h8
      obtain ⟨b8, rfl, hn8⟩ := e8
      have Hhn0 := hid hn0
      have Hhn8 := hid hn8
      clear hn0 hn8
      have hdz := hid hd11
      clear h0 h8 hdk haft hcl hd11
      go_wp2
      exact thenK_n ⟨_, _, _, _, _, _, _, _, _, _, _, rfl, .inl ⟨kd rfl hdz, hid (HB.out.trans ((Below.refl w9.heap.size w9).mono HB.out.size)), kf rfl f0 (·.below (Below.refl w9.heap.size w9)), kf rfl f1 (·.below (Below.refl w9.heap.size w9)), kf rfl f2 (·.below (Below.refl w9.heap.size w9)), kf rfl f3 (·.below (Below.refl w9.heap.size w9)), kf rfl f4 (·.below (Below.refl w9.heap.size w9)), kf rfl f5 (·.below (Below.refl w9.heap.size w9)), kf rfl f6 (·.below (Below.refl w9.heap.size w9)), kf rfl f7 (·.below (Below.refl w9.heap.size w9)), kf rfl f8 (·.below (Below.refl w9.heap.size w9)), nf (⟨_, _, rfl, Hhn0.out, Hhn8.out⟩), kf rfl f10 (·.below (Below.refl w9.heap.size w9))⟩⟩
    · rintro d ac w9 ⟨x21, x22, x23, x24, x25, x26, x27, x28, x29, x30, x4, rfl, hI⟩ hcl hdk haft
      rcases hI with ⟨hd11, HB, f0, f1, f2, f3, f4, f5, f6, f7, f8, f9, f10⟩ | ⟨hd11, _, _⟩
      rotate_left
      · exact absurd ((hcl 11 _ rfl hd11 ⟨10, .data⟩ (by simp) rfl).symm.trans hdk) (by decide)
      have hdz := hid hd11
      clear  hdk haft hcl hd11
      go_wp2
      exact thenK_n ⟨_, _, _, _, _, _, _, _, _, _, _, rfl, .inl ⟨kd rfl hdz, hid (HB.out.trans ((below_one w9 _).mono HB.out.size)), kf rfl f0 (·.below (below_one w9 _)), kf rfl f1 (·.below (below_one w9 _)), kf rfl f2 (·.below (below_one w9 _)), kf rfl f3 (·.below (below_one w9 _)), kf rfl f4 (·.below (below_one w9 _)), kf rfl f5 (·.below (below_one w9 _)), kf rfl f6 (·.below (below_one w9 _)), kf rfl f7 (·.below (below_one w9 _)), kf rfl f8 (·.below (below_one w9 _)), kf rfl f9 (·.below (below_one w9 _)), nf (⟨_, rfl, heap_alloc_new w9 _, HB.out.size⟩)⟩⟩
    · rintro d ac w9 ⟨x21, x22, x23, x24, x25, x26, x27, x28, x29, x30, x4, rfl, hI⟩ hcl hdk haft
      rcases hI with ⟨_, HB, f0, f1, f2, f3, f4, f5, f6, f7, f8, f9, f10⟩ | ⟨hd11, _, _⟩
      rotate_left
      · exact absurd (hd11.symm.trans hdk) (by decide)
      have h10 := haft ⟨10, .data⟩ (by simp) rfl
      have h9 := haft ⟨9, .data⟩ (by simp) rfl
      obtain ⟨b4, rfl, hz, hb4⟩ := f10 h10
      obtain ⟨bA, bR, rfl, hn, hm⟩ := f9 h9
      have Hn := hid hn
      have Hm := hid hm
      have Hz := hid hz
      clear hn hm h9 h10 hdk haft hcl f0 f1 f2 f3 f4 f5 f6 f7 f8 f9 f10
      go_wp2_with (refine wpList_stored2 rfl rfl rfl rfl hz infoQry rfl rfl ?_; intro w8 hz8 hg8)
      exact thenK_n ⟨_, _, _, _, _, _, _, _, _, _, _, rfl, .inr ⟨rfl, hid (HB.out.trans (below_grown_at hg8 hb4 HB.out)), fEnd_mk Hz.out Hn.out Hm.out hz8 hg8⟩⟩
  case fin =>
    rintro d ac w9 ⟨x21, x22, x23, x24, x25, x26, x27, x28, x29, x30, x4, rfl, hI⟩ hall
    rcases hI with ⟨hd, _⟩ | ⟨_, HB, HE⟩
    · exact absurd ((hall 11).symm.trans hd) (by decide)
    obtain ⟨b4, A, R, rfl, hq, hz⟩ := HE.out
    have HQ := hid hq
    have HB2 := hid (HB1.out.trans (HB.out.mono HB1.out.size))
    have HS2 := hid (HS1.out.below HB.out)
    have HZ4 := hid hz
    obtain ⟨q0c, q1c, q2c, q3c, q4c, hl⟩ := box_cells hz
    have C3 := hid (chk_check q0 S0 (some ⟨A, 0, none⟩) (some ⟨R, 0, none⟩) none (some ⟨w.heap.size + 1, 0, none⟩) 1 1 0 1 w9 HQ.out HS2.out q0_wf s0_wf (by decide) check0)
    clear hq hz hall HB1 HS1 HT1 HZ g0 g1 g2 k0 k1 k2 k3 k4 HB HE
    go_wp2_with fail
    refine (chk0 C3.out).mono ?_
    rintro e w4 ⟨H2, R2, c2, c3, rfl, hk, hv, b4'⟩
    clear C3 q0c q1c q2c q3c q4c hl
    have HK := hid hk
    have HV := hid hv
    have hb5 := b4'.trans ((below_one w4 (.cells #[.slice H2 1 c2, .slice R2 1 c3] 34)).mono b4'.size)
    have HB5 := hid hb5
    have HK5 := hid (hk.below (below_one w4 (.cells #[.slice H2 1 c2, .slice R2 1 c3] 34)))
    have HV5 := hid (hv.below (below_one w4 (.cells #[.slice H2 1 c2, .slice R2 1 c3] 34)))
    have hz5 := heap_alloc_new w4 (.cells #[.slice H2 1 c2, .slice R2 1 c3] 34)
    have hlt5 : w4.heap.size < (w4.alloc (.cells #[.slice H2 1 c2, .slice R2 1 c3] 34)).heap.size := by simp
    have HZ5 := hid hz5
    have HL5 := hid hlt5
    obtain ⟨_, _, _, q3c, _, hl⟩ := box_cells (res_keep' HZ4.out hb5 (lt_of_block HZ4.out))
    obtain ⟨T, cT, T', cT', r0, r1, hA, hC, _⟩ := rul_at (HQ.out.rules.below hb5)
    have hlr := cell_lt r0
    have C4 := hid (chk_guard rul0 T T' cT cT' 1 _ hA (by decide) rul0_wf guard0)
    clear hk hv b4' hb5 hA hC hz5 hlt5
    go_upto_region 6 with fail
    generalize (w4.alloc (.cells #[.slice H2 1 c2, .slice R2 1 c3] 34)) = w5 at *
    generalize w4.heap.size = g5 at *
    go_wp2_with fail
    refine C4.out.mono ?_
    rintro e w6 ⟨rfl, b6⟩
    clear C4 q3c hl r0 r1 hlr
    have HB6 := hid (HB2.out.trans ((HB5.out.trans (b6.mono HB5.out.size)).mono HB2.out.size))
    have HK6 := hid (HK5.out.below b6)
    have HV6 := hid (HV5.out.below b6)
    have HZ6 := hid (res_keep' HZ5.out b6 (lt_of_block HZ5.out))
    have HS6 := hid (HS2.out.below (HB5.out.trans (b6.mono HB5.out.size)))
    clear b6 HB5 HK5 HV5 HZ5 HL5 HQ HZ4 HB2 HS2 HK HV
    have HW7 := hid (below_two w6 (.cells #[.string ⟨#[120]⟩] 9) (.cells #[.string ⟨#[120]⟩, .string ⟨#[120]⟩] 9))
    have HN7 := hid (nms_one w6 120 9)
    have HM7 := hid (nms_two w6 (.cells #[.string ⟨#[120]⟩] 9) 120 120 9)
    go_wp2_with fail
    refine (law_atom false _ [[120], [120]] _ _ _ HM7.out (by decide)).mono ?_
    rintro e w8 ⟨T8, c8, rfl, hT8, hc8, b8⟩
    have HN8 := hid ((HN7.out.below (below_one _ (.cells #[.string ⟨#[120]⟩, .string ⟨#[120]⟩] 9))).below b8)
    have HW8 := hid (HW7.out.trans (b8.mono HW7.out.size))
    have HQ8 := hid (q1_in HN8.out hT8 hc8)
    have HU8 := hid (below_two w8 (.cells #[.bool false, .string ⟨#[114]⟩, .slice T8 2 c8] 51) (.cells #[.slice (some ⟨w8.heap.size, 0, none⟩) 1 1, .slice none 0 0] 46))
    have C5 := hid (chk_check q1 S0 _ _ none (some ⟨w.heap.size + 1, 0, none⟩) 1 1 0 1 _ HQ8.out ((HS6.out.below HW8.out).below HU8.out) q1_wf s0_wf (by decide) check1)
    clear hT8 hc8 b8 HN7 HM7 HW7 HN8 HQ8
    go_wp2_with fail
    refine (chk1 C5.out).mono ?_
    rintro e w10 ⟨H9, R9, c9, d9, rfl, b10⟩
    clear C5
    have hb10 := HW8.out.trans ((HU8.out.trans (b10.mono HU8.out.size)).mono HW8.out.size)
    have HB10 := hid (HB6.out.trans (hb10.mono HB6.out.size))
    have HK10 := hid (HK6.out.below hb10)
    have HV10 := hid (HV6.out.below hb10)
    have HZ10 := hid (res_keep' HZ6.out hb10 (lt_of_block HZ6.out))
    clear b10 hb10 HW8 HU8 HK6 HV6 HZ6 HB6 HS6
    have hB11 := below_one w10 (.cells #[.slice H9 0 c9, .slice R9 0 d9] 34)
    have HB11 := hid (HB10.out.trans (hB11.mono HB10.out.size))
    have HK11 := hid (HK10.out.below hB11)
    have HV11 := hid (HV10.out.below hB11)
    have hz11 := res_keep' HZ10.out hB11 (lt_of_block HZ10.out)
    clear hB11
    go_upto_region 8 with fail
    generalize (w10.alloc (.cells #[.slice H9 0 c9, .slice R9 0 d9] 34)) = w11 at *
    have t0 := cell_of_heap (o := 0) (v := .slice H2 1 c2) hz11 rfl
    have t1 := cell_of_heap (o := 1) (v := .slice R2 1 c3) hz11 rfl
    have tl := lt_of_block hz11
    obtain ⟨hA, hV, hW⟩ := same_in w11
    have C6 := hid (law_same [1] [1] [[([120], 1), ([121], 2)]] [[([120], 1), ([121], 2)]] H2 R2 (some ⟨w11.heap.size, 0, none⟩) (some ⟨w11.heap.size + 1 + 1, 0, none⟩) c2 c3 1 1 _ (HK11.out.below hW) (HV11.out.below hW) hA hV (by decide) (by decide) (by decide) (by decide) (by decide) (by decide) (b := true) (by decide))
    have HW := hid hW
    clear hA hV hW hz11 HB10 HK10 HV10 HZ10 HK11 HV11
    go_wp2_with fail
    refine C6.out.mono ?_
    rintro e w12 ⟨rfl, b12⟩
    have hb := HB11.out.trans ((HW.out.trans (b12.mono HW.out.size)).mono HB11.out.size)
    clear C6 b12 HB11 HW t0 t1 tl
    go_wp2
    go_ret
    exact ⟨rfl, hb⟩
end Go.Proofs.Ytgeapgbebbapmaa
