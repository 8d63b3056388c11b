/-
  WALK: the law's rule: the document's form of a rule; no condition but on the lengths.
-/
import Derived.Test.YtgeapgbebbapmaaRef21
import Derived.Test.YtgeapgbebbapmaaChk3
import Derived.Deep.QuietTactic
import Derived.BigQuiet
namespace Go.Proofs.Ytgeapgbebbapmaa
open Go.RowKit

set_option maxRecDepth 100000 in
set_option maxHeartbeats 16000000 in
theorem law_rule (r : Rul) (T T2 : Option Addr) (c c2 : Nat) (w : World) (ha : AtmsAt w T r.atoms) (hc : CndsAt w T2 r.conds) (m1 : r.atoms.length ≤ 2932031007402) (m2 : r.conds.length ≤ 2932031007402) (m3 : ∀ a ∈ r.atoms, a.ts.length ≤ 2932031007402) :
    Calls Try.prog 18 #[.agg #[.slice T r.atoms.length c, .slice T2 r.conds.length c2]] w fun e w' => ∃ A B ca cb, e = .returned (.agg #[.slice A r.atoms.length ca, .slice B r.conds.length cb]) ∧ RAsAt w' A r.atoms ∧ RCsAt w' B r.conds ∧ Below w.heap.size w w' := by
  obtain ⟨iT, hiT, hzT0, hzT1, hzT2⟩ := info_parts infoRT
  obtain ⟨iA, hiA, hzA0, hzA1, hzA2⟩ := info_parts infoRA
  obtain ⟨iC, hiC, hzC0, hzC1, hzC2⟩ := info_parts infoRC
  obtain ⟨ats, cds⟩ := r
  simp only at *
  have HA := hid ha
  have HC := hid hc
  have M3 := hid m3
  have HB0 : Hid (Below (w.heap.size + 1 + 1) ((w.alloc (.cells #[.slice T ats.length c, .slice T2 cds.length c2] 46)).alloc (.cells #[.slice none 0 0, .slice none 0 0] 56)) (((w.alloc (.cells #[.slice T ats.length c, .slice T2 cds.length c2] 46)).alloc (.cells #[.slice none 0 0, .slice none 0 0] 56)).alloc (.cells #[.slice none 0 0, .slice none 0 0] 56))) := hid ((Below.refl _ _).alloc (by simp) _)
  have HT0 : Hid ((((w.alloc (.cells #[.slice T ats.length c, .slice T2 cds.length c2] 46)).alloc (.cells #[.slice none 0 0, .slice none 0 0] 56)).alloc (.cells #[.slice none 0 0, .slice none 0 0] 56)).heap[w.heap.size + 1 + 1]? = some (.cells #[.slice none 0 0, .slice none 0 0] 56 (0, 0))) := hid (by
    have := heap_alloc_new ((w.alloc (.cells #[.slice T ats.length c, .slice T2 cds.length c2] 46)).alloc (.cells #[.slice none 0 0, .slice none 0 0] 56)) (.cells #[.slice none 0 0, .slice none 0 0] 56)
    simpa using this)
  clear ha hc m3
  go_enter Try.func18, Try.ntmps18
  go_wp2
  go_loopw [14] (fun i wr => ∃ (j : Nat) (u : Value) (us : List Value), j ≤ ats.length ∧ us.length ≤ j ∧ j ≤ us.length ∧ i = .int .i64 j ∧ Hid (wr.heap[w.heap.size + 1 + 1]? = some (.cells #[u, .slice none 0 0] 56 (0, 0))) ∧ Hid (wr.ownsRow (w.heap.size + 1 + 1 + 1) 98 3 u j (rasC (ats.take j) us)) ∧ Hid (OwnsT wr (w.heap.size + 1 + 1 + 1) us ats) ∧ Hid (Below (w.heap.size + 1 + 1) ((w.alloc (.cells #[.slice T ats.length c, .slice T2 cds.length c2] 46)).alloc (.cells #[.slice none 0 0, .slice none 0 0] 56)) wr)) (fun i _ => ats.length - (intOf i).toNat)
  case atStart => exact ⟨0, .slice none 0 0, [], by omega, by simp, by simp, rfl, HT0, hid (World.ownsRow_nil _ _ _ _), hid OwnsT.nil, HB0⟩
  case round =>
    rename World => wo
    obtain ⟨j, u, us, hj, hu1, hu2, rfl, HT, HU, HUS, HB⟩ := hrel
    clear HT0 HB0
    obtain ⟨b0, b1, blt, hbel⟩ := three_cells HB.out
    have hsz := hbel.size
    have htlt : w.heap.size + 1 + 1 < wo.heap.size := lt_of_block HT.out
    have t0 : wo.cell? ⟨w.heap.size + 1 + 1, 0, none⟩ = some u := by rw [cell_res' HT.out]; rfl
    have t1 : wo.cell? ⟨w.heap.size + 1 + 1, 1, none⟩ = some (.slice none 0 0) := by rw [cell_res' HT.out]; rfl
    by_cases hjt : j < ats.length
    · obtain ⟨bb, o, rfl, hca⟩ := HA.out (by omega)
      obtain ⟨T5, c5, d0, d1, d2, ht5, _, _⟩ := hca j hjt
      replace d0 := cell_keep hbel d0
      replace d1 := cell_keep hbel d1
      replace d2 := cell_keep hbel d2
      have m5 := M3.out ats[j] (List.getElem_mem hjt)
      have hsn := rasC_snoc hjt (show us.length = j by omega)
      obtain ⟨⟨ng, rel, ts⟩, ea⟩ : ∃ a, ats[j] = a := ⟨_, rfl⟩
      have hats : ats[j].ts = ts := by rw [ea]
      rw [ea] at d0 d1 d2 ht5 m5 hsn
      simp only at d0 d1 d2 ht5 m5
      simp only [raC] at hsn
      obtain ⟨Z, hZ, _, _⟩ := nm rel
      rw [hZ] at d1
      rw [hZ] at hsn
      have HZ := hid hZ
      have HTS := hid (TrmsAt.below ht5 (hbel.trans (below_one wo (.cells #[.bool ng, .string Z, .slice T5 ts.length c5] 51) |>.mono hsz)))
      have HSN := hid hsn
      have HATS := hid hats
      clear hca ea ht5 hZ hsn hats
      have HB6 : Hid (Below (wo.heap.size + 1) (wo.alloc (.cells #[.bool ng, .string Z, .slice T5 ts.length c5] 51)) ((wo.alloc (.cells #[.bool ng, .string Z, .slice T5 ts.length c5] 51)).alloc (.cells #[.bool ng, .string Z, .slice none 0 0] 98))) := hid ((Below.refl _ _).alloc (by simp) _)
      have HT6 : Hid (((wo.alloc (.cells #[.bool ng, .string Z, .slice T5 ts.length c5] 51)).alloc (.cells #[.bool ng, .string Z, .slice none 0 0] 98)).heap[wo.heap.size + 1]? = some (.cells #[.bool ng, .string Z, .slice none 0 0] 98 (0, 0))) := hid (by
        have := heap_alloc_new (wo.alloc (.cells #[.bool ng, .string Z, .slice T5 ts.length c5] 51)) (.cells #[.bool ng, .string Z, .slice none 0 0] 98)
        simpa using this)
      go_wp2
      clear d0 d1 d2 t0 t1 b0 b1
      go_loopw [26] (fun i wr => ∃ (k : Nat) (v : Value), k ≤ ts.length ∧ i = .int .i64 k ∧ Hid (wr.heap[wo.heap.size + 1]? = some (.cells #[.bool ng, .string Z, v] 98 (0, 0))) ∧ Hid (wr.ownsRow (wo.heap.size + 1 + 1) 100 2 v k ((ts.take k).flatMap rtC)) ∧ Hid (Below (wo.heap.size + 1) (wo.alloc (.cells #[.bool ng, .string Z, .slice T5 ts.length c5] 51)) wr)) (fun i _ => ts.length - (intOf i).toNat)
      case atStart => exact ⟨0, .slice none 0 0, by omega, rfl, HT6, hid (World.ownsRow_nil _ _ _ _), HB6⟩
      case round =>
        obtain ⟨k, v, hk, rfl, HT7, HV, HB7⟩ := hrel
        clear HT6 HB6
        have hbw : Below wo.heap.size wo wr := (below_one wo _).trans (HB7.out.mono (by omega))
        have hbz := HB7.out.size
        have h7lt : wo.heap.size + 1 < wr.heap.size := lt_of_block HT7.out
        have t2 : wr.cell? ⟨wo.heap.size + 1, 2, none⟩ = some v := by rw [cell_res' HT7.out]; rfl
        by_cases hkt : k < ts.length
        · obtain ⟨bb5, o5, rfl, hct⟩ := HTS.out (by omega)
          obtain ⟨g0, g1, g2, g3⟩ := hct k hkt
          have hbz1 : Below (wo.alloc (.cells #[.bool ng, .string Z, .slice (some ⟨bb5, o5, none⟩) ts.length c5] 51)).heap.size (wo.alloc (.cells #[.bool ng, .string Z, .slice (some ⟨bb5, o5, none⟩) ts.length c5] 51)) wr := HB7.out.mono (by simp)
          replace g0 := cell_keep hbz1 g0
          replace g1 := cell_keep hbz1 g1
          replace g2 := cell_keep hbz1 g2
          replace g3 := cell_keep hbz1 g3
          obtain ⟨⟨tv, ⟨tk, tn, tx⟩⟩, et⟩ : ∃ t, ts[k] = t := ⟨_, rfl⟩
          rw [et] at g0 g1 g2 g3
          simp only at g0 g1 g2 g3
          have htk : (ts.take (k + 1)).flatMap rtC = (ts.take k).flatMap rtC ++ [.string ⟨tv.toArray⟩, .int .i64 tk] := by
            rw [List.take_succ_eq_append_getElem hkt, et, List.flatMap_append]; rfl
          obtain ⟨X, hX, _, _⟩ := nm tv
          rw [hX] at g0 htk
          have HTK := hid htk
          have f2 : wr.frozen? ⟨wo.heap.size + 1, 2, none⟩ = false := by simp [World.frozen?, HT7.out]
          have HV8 := hid (HV.out.alloc (.cells #[.string X, .int .i64 tk, .int .i64 tn, .string tx] 81))
          have HT8 := hid (res_keep' HT7.out (below_one wr (.cells #[.string X, .int .i64 tk, .int .i64 tn, .string tx] 81)) h7lt)
          have HB8 := hid (HB7.out.alloc (by omega) (.cells #[.string X, .int .i64 tk, .int .i64 tn, .string tx] 81))
          clear hct et hX htk hbz1
          go_wp2_with (at_builtin; refine wpList_append_new2 Try.underlying96 hiT hzT0 hzT1 hzT2 rfl (by decide) (by decide) rfl rfl rfl HV8.out rfl (by simp) rfl rfl (by omega) (by simp; omega) ?_; intro v9 w9 hown9 hg9; obtain ⟨g9, cap9, rfl⟩ := own_slice1 hown9; have hT9 := hid ((hg9.block (wo.heap.size + 1) (by simp; omega) (fun e => by have := (HV8.out.lt _ e.symm).1; omega)).trans HT8.out); have t9 : w9.cell? ⟨wo.heap.size + 1, 2, none⟩ = some v := (by rw [cell_res' hT9.out]; rfl); have f9 : w9.frozen? ⟨wo.heap.size + 1, 2, none⟩ = false := by simp [World.frozen?, hT9.out])
          have HT10 := hid (three_set hT9.out (x := .slice (some ⟨g9, 0, none⟩) (k + 1) cap9))
          have hV10 := ownsRow_setCell_other hown9 (a := ⟨wo.heap.size + 1, 2, none⟩) (fun e => by have := (hown9.lt _ e).1; simp at this; omega) (.slice (some ⟨g9, 0, none⟩) (k + 1) cap9)
          rw [← HTK.out] at hV10
          have HV10 := hid hV10
          have hB9 := HB8.out.grown hg9 (by simp; omega) (fun k e => by have := (HV8.out.lt k e).1; omega)
          have HB10 := hid (hB9.setCell (p := ⟨wo.heap.size + 1, 2, none⟩) (by show wo.heap.size + 1 ≤ wo.heap.size + 1; omega) (.slice (some ⟨g9, 0, none⟩) (k + 1) cap9))
          clear hown9 hg9 hT9 t9 f9 hV10 hB9
          go_wp2
          go_roundw
          case rel => exact ⟨k + 1, _, by omega, by go_num, HT10, HV10, HB10⟩
          case measure => simp [intOf]; omega
        · have hkl : k = ts.length := by omega
          have hV : OwnT wr (wo.heap.size + 1 + 1) v ts := by
            have h1 := HV.out
            rw [List.take_of_length_le (by omega), hkl] at h1
            exact h1
          have HVo := hid (show OwnT wr (w.heap.size + 1 + 1 + 1) v ts from own_mono hV (by omega))
          obtain ⟨T9, c9, rfl, _, _⟩ := hV.at
          have HT' := hid (res_keep' HT.out hbw htlt)
          have HU' := hid (own_belowS HU.out hbw)
          have HUS' := hid (HUS.out.below hbw)
          have HB' := hid (HB.out.trans (hbw.mono (by omega)))
          have t20 : wr.cell? ⟨wo.heap.size + 1, 0, none⟩ = some (.bool ng) := by rw [cell_res' HT7.out]; rfl
          have t21 : wr.cell? ⟨wo.heap.size + 1, 1, none⟩ = some (.string Z) := by rw [cell_res' HT7.out]; rfl
          have t0 : wr.cell? ⟨w.heap.size + 1 + 1, 0, none⟩ = some u := by rw [cell_res' HT'.out]; rfl
          have hwx : w.heap.size + 1 + 1 < wr.heap.size := by omega
          clear hV HV hkl
          go_wp2_with (at_builtin; refine wpList_append_new2 Try.underlying53 hiA hzA0 hzA1 hzA2 rfl (by decide) (by decide) rfl rfl rfl HU'.out rfl (by simp) rfl rfl (by omega) (by omega) ?_; intro v9 w9 hown9 hg9; obtain ⟨g9, cap9, rfl⟩ := own_slice1 hown9; have hT9 := hid ((hg9.block (w.heap.size + 1 + 1) hwx (fun e => by have := (HU'.out.lt _ e.symm).1; omega)).trans HT'.out); have t9 : w9.cell? ⟨w.heap.size + 1 + 1, 0, none⟩ = some u := (by rw [cell_res' hT9.out]; rfl); have f9 : w9.frozen? ⟨w.heap.size + 1 + 1, 0, none⟩ = false := by simp [World.frozen?, hT9.out])
          have HT10 := hid (two_set hT9.out (x := .slice (some ⟨g9, 0, none⟩) (j + 1) cap9)).1
          have hU10 := ownsRow_setCell_other hown9 (a := ⟨w.heap.size + 1 + 1, 0, none⟩) (fun e => by have := (hown9.lt _ e).1; simp at this; omega) (.slice (some ⟨g9, 0, none⟩) (j + 1) cap9)
          have HVo9 := (HVo.out.kept hg9 (own_apart HVo.out HU'.out (by decide)))
          have hUS9 := (HUS'.out.kept HU'.out (by decide) hg9)
          have hUS10 := OwnsT.far hUS9 (grown_set w9 ⟨w.heap.size + 1 + 1, 0, none⟩ (.slice (some ⟨g9, 0, none⟩) (j + 1) cap9)) (by show w.heap.size + 1 + 1 < _; omega)
          have hV10 : OwnT (w9.setCell ⟨w.heap.size + 1 + 1, 0, none⟩ (.slice (some ⟨g9, 0, none⟩) (j + 1) cap9)) (w.heap.size + 1 + 1 + 1) (.slice T9 ts.length c9) ts := ownsRow_setCell_other HVo9 (fun e => by have := (HVo9.lt _ e).1; simp at this; omega) _
          have hB9 := HB'.out.grown hg9 (by omega) (fun k e => by have := (HU'.out.lt k e).1; omega)
          have HB10 := hid (hB9.setCell (p := ⟨w.heap.size + 1 + 1, 0, none⟩) (by show w.heap.size + 1 + 1 ≤ w.heap.size + 1 + 1; omega) (.slice (some ⟨g9, 0, none⟩) (j + 1) cap9))
          have HUS11 := hid (OwnsT.snoc2 hUS10 (u := .slice T9 ts.length c9) (show us.length = j by omega) hjt HATS.out hV10)
          rw [← HSN.out] at hU10
          have HU11 := hid hU10
          clear hown9 hg9 hT9 t9 f9 hU10 hB9 HVo9 hUS9 hUS10 hV10
          go_wp2
          go_roundw
          case rel => exact ⟨j + 1, _, us ++ [.slice T9 ts.length c9], by omega, by simp; omega, by simp; omega, by go_num, HT10, HU11, HUS11, HB10⟩
          case measure => simp [intOf]; omega
    · have hjl : j = ats.length := by omega
      have hul : us.length = ats.length := by omega
      have HU0 : Hid (wo.ownsRow (w.heap.size + 1 + 1 + 1) 98 3 u ats.length (rasC ats us)) := hid (by
        have h1 := HU.out
        rw [List.take_of_length_le (by omega), hjl] at h1
        exact h1)
      have HUL := hid hul
      clear HU hjl hul
      go_wp2
      clear t0 t1
      go_loopw [52] (fun i wr => ∃ (k : Nat) (v : Value), k ≤ cds.length ∧ i = .int .i64 k ∧ Hid (wr.heap[w.heap.size + 1 + 1]? = some (.cells #[u, v] 56 (0, 0))) ∧ Hid (wr.ownsRow (w.heap.size + 1 + 1 + 1) 98 3 u ats.length (rasC ats us)) ∧ Hid (OwnsT wr (w.heap.size + 1 + 1 + 1) us ats) ∧ Hid (wr.ownsRow (w.heap.size + 1 + 1 + 1) 102 2 v k ((cds.take k).flatMap rcC)) ∧ Hid (Below (w.heap.size + 1 + 1) ((w.alloc (.cells #[.slice T ats.length c, .slice T2 cds.length c2] 46)).alloc (.cells #[.slice none 0 0, .slice none 0 0] 56)) wr)) (fun i _ => cds.length - (intOf i).toNat)
      case atStart => exact ⟨0, .slice none 0 0, by omega, rfl, HT, HU0, HUS, hid (World.ownsRow_nil _ _ _ _), HB⟩
      case round =>
        obtain ⟨k, v, hk, rfl, HT2, HU2, HUS2, HV, HB2⟩ := hrel
        clear HT HU0 HUS HB b0 b1 blt
        have hblw := hbel
        clear hbel hsz htlt
        obtain ⟨b0, b1, blt, hbel⟩ := three_cells HB2.out
        have hsz := hbel.size
        have htlt : w.heap.size + 1 + 1 < wr.heap.size := lt_of_block HT2.out
        have t0 : wr.cell? ⟨w.heap.size + 1 + 1, 0, none⟩ = some u := by rw [cell_res' HT2.out]; rfl
        have t1 : wr.cell? ⟨w.heap.size + 1 + 1, 1, none⟩ = some v := by rw [cell_res' HT2.out]; rfl
        by_cases hkt : k < cds.length
        · obtain ⟨bb, o, rfl, hcc⟩ := HC.out (by omega)
          obtain ⟨g0, g1, g2, g3, g4⟩ := hcc k hkt
          replace g0 := cell_keep hbel g0
          replace g1 := cell_keep hbel g1
          replace g2 := cell_keep hbel g2
          replace g3 := cell_keep hbel g3
          replace g4 := cell_keep hbel g4
          obtain ⟨⟨cv, cop, ⟨ck, cn, cx⟩⟩, et⟩ : ∃ t, cds[k] = t := ⟨_, rfl⟩
          rw [et] at g0 g1 g2 g3 g4
          simp only at g0 g1 g2 g3 g4
          have htk : (cds.take (k + 1)).flatMap rcC = (cds.take k).flatMap rcC ++ [.string ⟨cv.toArray⟩, .int .i64 ck] := by
            rw [List.take_succ_eq_append_getElem hkt, et, List.flatMap_append]; rfl
          obtain ⟨X, hX, _, _⟩ := nm cv
          rw [hX] at g0 htk
          have HTK := hid htk
          have hb1 := below_one wr (.cells #[.string X, .int .i64 cop, .int .i64 ck, .int .i64 cn, .string cx] 79)
          have HV8 := hid (HV.out.alloc (.cells #[.string X, .int .i64 cop, .int .i64 ck, .int .i64 cn, .string cx] 79))
          have HT8 := hid (res_keep' HT2.out hb1 htlt)
          have HU8 := hid (own_belowS HU2.out hb1)
          have HUS8 := hid (HUS2.out.below hb1)
          have HB8 := hid (HB2.out.alloc (by omega) (.cells #[.string X, .int .i64 cop, .int .i64 ck, .int .i64 cn, .string cx] 79))
          clear hcc et hX htk hb1
          go_wp2_with (at_builtin; refine wpList_append_new2 Try.underlying54 hiC hzC0 hzC1 hzC2 rfl (by decide) (by decide) rfl rfl rfl HV8.out rfl (by simp) rfl rfl (by omega) (by simp; omega) ?_; intro v9 w9 hown9 hg9; obtain ⟨g9, cap9, rfl⟩ := own_slice1 hown9; have hT9 := hid ((hg9.block (w.heap.size + 1 + 1) (by simp; omega) (fun e => by have := (HV8.out.lt _ e.symm).1; omega)).trans HT8.out); have t9 : w9.cell? ⟨w.heap.size + 1 + 1, 1, none⟩ = some v := (by rw [cell_res' hT9.out]; rfl); have f9 : w9.frozen? ⟨w.heap.size + 1 + 1, 1, none⟩ = false := by simp [World.frozen?, hT9.out])
          have HT10 := hid (two_set hT9.out (x := .slice (some ⟨g9, 0, none⟩) (k + 1) cap9)).2
          have hV10 := ownsRow_setCell_other hown9 (a := ⟨w.heap.size + 1 + 1, 1, none⟩) (fun e => by have := (hown9.lt _ e).1; simp at this; omega) (.slice (some ⟨g9, 0, none⟩) (k + 1) cap9)
          rw [← HTK.out] at hV10
          have HV10 := hid hV10
          have hU9 := HU8.out.kept hg9 (own_apart HU8.out HV8.out (by decide))
          have HU10 := hid (ownsRow_setCell_other hU9 (a := ⟨w.heap.size + 1 + 1, 1, none⟩) (fun e => by have := (hU9.lt _ e).1; simp at this; omega) (.slice (some ⟨g9, 0, none⟩) (k + 1) cap9))
          have hUS9 := (HUS8.out.kept HV8.out (by decide) hg9)
          have HUS10 := hid (OwnsT.far hUS9 (grown_set w9 ⟨w.heap.size + 1 + 1, 1, none⟩ (.slice (some ⟨g9, 0, none⟩) (k + 1) cap9)) (by show w.heap.size + 1 + 1 < _; omega))
          have hB9 := HB8.out.grown hg9 (by simp; omega) (fun k e => by have := (HV8.out.lt k e).1; omega)
          have HB10 := hid (hB9.setCell (p := ⟨w.heap.size + 1 + 1, 1, none⟩) (by show w.heap.size + 1 + 1 ≤ w.heap.size + 1 + 1; omega) (.slice (some ⟨g9, 0, none⟩) (k + 1) cap9))
          clear hown9 hg9 hT9 t9 f9 hV10 hB9 hU9 hUS9
          go_wp2
          go_roundw
          case rel => exact ⟨k + 1, _, by omega, by go_num, HT10, HU10, HUS10, HV10, HB10⟩
          case measure => simp [intOf]; omega
        · have hkl : k = cds.length := by omega
          have HV0 : Hid (wr.ownsRow (w.heap.size + 1 + 1 + 1) 102 2 v cds.length (cds.flatMap rcC)) := hid (by
            have h1 := HV.out
            rw [List.take_of_length_le (by omega), hkl] at h1
            exact h1)
          obtain ⟨A, ca, rfl, _, _⟩ := HUS2.out.at HUL.out HU2.out
          obtain ⟨B, cb, rfl, _, _⟩ := own_conds HV0.out
          have hz : wr.heap[w.heap.size + 1]? = some (.cells #[.slice none 0 0, .slice none 0 0] 56) := by
            rw [HB2.out.block _ (by omega)]
            have := heap_alloc_new (w.alloc (.cells #[.slice T ats.length c, .slice T2 cds.length c2] 46)) (.cells #[.slice none 0 0, .slice none 0 0] 56)
            simpa using this
          clear HV hkl
          go_wp2_with (refine wpList_stored2 rfl rfl rfl rfl hz infoRRs rfl rfl ?_; intro wz hz3 hg3)
          refine bodyPost_ret (by simp [results, Try.results18, go_sem, cell_res' hz3]; rfl) rfl ?_
          obtain ⟨A2, ca2, e2, hA2, _⟩ := (OwnsT.far HUS2.out hg3 (by omega)).at HUL.out (HU2.out.kept hg3 (.inr (fun e => by have := (HU2.out.lt _ e).1; omega)))
          obtain ⟨B2, cb2, e3, hB2, _⟩ := own_conds (HV0.out.kept hg3 (.inr (fun e => by have := (HV0.out.lt _ e).1; omega)))
          injection e2 with e2 _ _
          injection e3 with e3 _ _
          subst e2 e3
          exact ⟨A, B, ca, cb, rfl, hA2, hB2, hbel.grown hg3 (by omega) (fun k e => by injection e; omega)⟩
end Go.Proofs.Ytgeapgbebbapmaa
