/-
  PARTS of a claim, merged by segs.py: Sk14.
-/
import Derived.Test.YtjhnopnppimnhaaGreatDoorZ38
namespace Go.Proofs.YtjhnopnppimnhaaGreatDoor

/-! ### Sk14 -/
section
open Go.RowKit

theorem nam_ne : ∀ i : Fin 20, (opName (i.val : Int)).toList.isEmpty = false := by
  have : ∀ i : Fin 20, (opName (i.val : Int)).data.toList.isEmpty = false := by decide
  intro i
  rw [Lib.toList_data]; exact this i
theorem rng_at {l : List Int} {r : List (Int × Int)} (h : rangesB l r = true) {k : Nat} (h1 : k < l.length) (h2 : k < r.length) : ¬ l[k] < r[k].1 ∧ ¬ r[k].2 < l[k] := by
  unfold rangesB at h
  have hz : k < (l.zip r).length := by simp; omega
  have := List.all_eq_true.1 h _ (List.getElem_mem hz)
  rw [List.getElem_zip] at this
  simp only [Bool.and_eq_true, decide_eq_true_eq] at this
  omega

set_option maxRecDepth 100000 in
set_option maxHeartbeats 8000000 in
theorem scr_check (n : Int) (c : Cm) (Tn R : Option Addr) (ct cr : Nat) (w : World) (hE : EnvS w) (hc : CmAt w Tn ct R cr c) (hok : CmOk c) (hlen : (textC c).length ≤ 60000) :
    Calls Tryz.prog 20 #[.agg (cmA n c (.slice Tn c.nums.length ct) (.slice R c.row.length cr))] w fun e w' => e = .returned (.int .i64 0) ∧ Below w.heap.size w w' := by
  have hop := hok.op
  obtain ⟨f, hf⟩ : ∃ f, shpOf c.op = f := ⟨_, rfl⟩
  have hways := shp_ways hop
  have hrow := hok.row
  have hsix := hok.six
  have hnm := hok.name
  have hleq := hok.len
  have hrng := hok.rng
  have hqry := hok.qry
  have hnoN := hok.noN
  have hnoR := hok.noR
  have hnoQ := hok.noQ
  have hparts : textC c = nam6.getD c.op [] ++ flat32 ((if f.name = true then [c.name] else []) ++ (c.nums.map (numT c.op) ++ ((if f.row = true then [rowTextL c.row] else []) ++ (if f.query = true then [c.query] else [])))) ++ [10] := by rw [← hf]; rfl
  rw [hf] at hways hrow hsix hnm hleq hrng hqry hnoN hnoR hnoQ
  have hfl : ∀ p ∈ ((if f.name = true then [c.name] else []) ++ (c.nums.map (numT c.op) ++ ((if f.row = true then [rowTextL c.row] else []) ++ (if f.query = true then [c.query] else [])))), p.length ≤ 60000 := fun p hp => by
    have := mem_flat hp
    rw [hparts, List.length_append, List.length_append] at hlen
    omega
  have hnl : c.nums.length ≤ 60000 := by
    have := len_flat ((if f.name = true then [c.name] else []) ++ (c.nums.map (numT c.op) ++ ((if f.row = true then [rowTextL c.row] else []) ++ (if f.query = true then [c.query] else []))))
    rw [hparts, List.length_append, List.length_append] at hlen
    simp only [List.length_append, List.length_map] at this
    omega
  obtain ⟨NB, hNB⟩ : ∃ NB : ByteArray, (⟨c.name.toArray⟩ : ByteArray) = NB := ⟨_, rfl⟩
  obtain ⟨QB, hQB⟩ : ∃ QB : ByteArray, (⟨c.query.toArray⟩ : ByteArray) = QB := ⟨_, rfl⟩
  have hNl : NB.data.toList = c.name := by rw [← hNB]
  have hQl : QB.data.toList = c.query := by rw [← hQB]
  have HNm := hid (fun (h : f.name = true) => show ∀ W, Calls Tryz.prog 32 #[.string NB] W fun e w' => e = .returned (.bool true) ∧ W = w' from fun W => cat_valid NB W (by rw [hNl]; exact hnm h))
  have hNE : f.name = false → NB.toList.isEmpty = true := fun h => by rw [Lib.toList_data, hNl, hnoN h]; rfl
  have hQE : f.query = false → QB.toList.isEmpty = true := fun h => by rw [Lib.toList_data, hQl, hnoQ h]; rfl
  have HQy := hid (fun (h : f.query = true) => show ∀ W, EnvL W → Calls Tryz.prog 34 #[.string QB] W fun e w' => e = .returned (.bool true) ∧ Below W.heap.size W w' from fun W hE => scr_accepted QB (by rw [← hQB, size_l]; have := hfl c.query (by rw [h, if_pos rfl]; simp); omega) W hE (by rw [hQl]; exact (hqry h).1))
  have HRw := hid (fun (h : f.row = true) => show ∀ W, RowAt W R c.row → Tab W → (Calls Tryz.prog 33 #[.slice R c.row.length cr] W fun e w' => e = .returned (.bool true) ∧ Below W.heap.size W w') ∧ (Calls Tryz.prog 16 #[.slice R c.row.length cr] W fun e W' => e = .returned (.string ⟨(rowTextL c.row).toArray⟩) ∧ Below W.heap.size W W') from fun W hR ht => by
    have h1 := (hrow h).1
    have h2 := row_len h1
    have h3 := hfl (rowTextL c.row) (by rw [h, if_pos rfl]; simp)
    exact ⟨row_valid R cr c.row W hR (by omega) (List.all_eq_true.2 fun v hv => (h1 v hv).1), row_textB R cr c.row W hR (by omega) (text_ok h1).1 ht rfl⟩)
  have HPr := hid (fun (h : f.row = true) => show ∀ W, Calls Tryz.prog 18 #[.string ⟨(rowTextL c.row).toArray⟩] W fun e w' => e = .returned (.bool true) ∧ W = w' from fun W => scr_printable ⟨(rowTextL c.row).toArray⟩ W (by rw [size_l]; have := hfl (rowTextL c.row) (by rw [h, if_pos rfl]; simp); omega) (hrow h).2)
  have hRE : f.row = false → c.row.length = 0 := fun h => by rw [hnoR h]; rfl
  have hLE : f.kinds = false → ((c.nums.length : Int) != (f.nums.length : Int)) = false := fun h => by rw [hleq h]; simp
  have hSE : f.kinds = true → ¬ (6 : Int) < c.nums.length := fun h => by have := (hsix h).1; omega
  have HNum : Hid (∀ k (h : k < c.nums.length), (f.kinds = false → ∃ h2 : k < f.nums.length, ¬ c.nums[k] < f.nums[k].1 ∧ ¬ f.nums[k].2 < c.nums[k]) ∧ (f.kinds = true → ¬ c.nums[k] < 1 ∧ ¬ 2 < c.nums[k])) := hid (fun k h => by
    have hm := List.getElem_mem h
    refine ⟨fun hk => ⟨by rw [← hleq hk]; exact h, rng_at (hrng hk) h _⟩, fun hk => ?_⟩
    have := (hsix hk).2 _ hm
    omega)
  have HCm := hid hc
  have HE := hid hE
  have hne := nam_ne ⟨c.op, hop⟩
  have k0 := below_one w (.cells #[.int .i64 n, .int .i64 c.op, .string NB, .slice Tn c.nums.length ct, .slice R c.row.length cr, .string QB] 35)
  have hb0 := heap_alloc_new w (.cells #[.int .i64 n, .int .i64 c.op, .string NB, .slice Tn c.nums.length ct, .slice R c.row.length cr, .string QB] 35)
  have HSh := hid (shape_of hop (w.alloc (.cells #[.int .i64 n, .int .i64 c.op, .string NB, .slice Tn c.nums.length ct, .slice R c.row.length cr, .string QB] 35)))
  rw [hf] at HSh
  have HNa := hid (scr_name (c.op : Int) _ (hE.nam.below k0) (by unfold I64; omega) rfl)
  simp only at hne
  generalize opName (c.op : Int) = XB at *
  show Calls _ _ #[.agg #[.int .i64 n, .int .i64 c.op, .string ⟨c.name.toArray⟩, .slice Tn c.nums.length ct, .slice R c.row.length cr, .string ⟨c.query.toArray⟩]] _ _
  rw [hNB, hQB]
  clear hc hE hok hrow hsix hfl hlen hnm hleq hrng hqry hnoN hnoR hnoQ hparts hNB hQB hNl hQl hf
  go_enter Tryz.func20, Tryz.ntmps20
  go_wp2_with fail
  refine HNa.out.mono ?_
  rintro e w1 ⟨rfl, rfl⟩
  clear HNa
  go_wp2_with fail
  refine HSh.out.mono ?_
  rintro e w2 ⟨A, cf, rfl, hsp2, -, b2⟩
  have hb2 := (b2.block _ (lt_of_block hb0)).trans hb0
  have k2 := k0.trans (b2.mono k0.size)
  have hl2 := lt_of_block hb2
  obtain ⟨nm, kd, nums, rr, qq⟩ := f
  simp only at *
  have k3 := below_one w2 (.cells #[.bool nm, .bool kd, .slice A nums.length cf, .bool rr, .bool qq] 76)
  have hb3 := heap_alloc_new w2 (.cells #[.bool nm, .bool kd, .slice A nums.length cf, .bool rr, .bool qq] 76)
  have hb1 := (k3.block _ hl2).trans hb2
  have hsp3 := hsp2.below k3
  have K3 := k2.trans (k3.mono k2.size)
  obtain ⟨W3, hW3⟩ : ∃ W3, w2.alloc (.cells #[.bool nm, .bool kd, .slice A nums.length cf, .bool rr, .bool qq] 76) = W3 := ⟨_, rfl⟩
  rw [hW3] at hb3 hb1 hsp3 K3 k3
  have HW3 := hid hW3
  have HSp := hid hsp3
  have HB1 := hid hb1
  have HB3 := hid hb3
  have HK3 := hid K3
  have hl3 : w2.heap.size < W3.heap.size := lt_of_block hb3
  clear HSh hb0 k0 hW3 hb2 b2 k2 k3 hsp2 hsp3 hb1 hb3 K3
  go_upto_region 4 with (first | rw [HW3.out] | fail)
  generalize w2.heap.size = gs at *
  clear HW3
  obtain ⟨x0, x1, x2, x3, x4, x5⟩ : W3.cell? ⟨w.heap.size, 0, none⟩ = some (.int .i64 n) ∧ W3.cell? ⟨w.heap.size, 1, none⟩ = some (.int .i64 c.op) ∧ W3.cell? ⟨w.heap.size, 2, none⟩ = some (.string NB) ∧ W3.cell? ⟨w.heap.size, 3, none⟩ = some (.slice Tn c.nums.length ct) ∧ W3.cell? ⟨w.heap.size, 4, none⟩ = some (.slice R c.row.length cr) ∧ W3.cell? ⟨w.heap.size, 5, none⟩ = some (.string QB) := ⟨box_cell HB1.out 0, box_cell HB1.out 1, box_cell HB1.out 2, box_cell HB1.out 3, box_cell HB1.out 4, box_cell HB1.out 5⟩
  obtain ⟨y0, y1, y2, y3, y4⟩ : W3.cell? ⟨gs, 0, none⟩ = some (.bool nm) ∧ W3.cell? ⟨gs, 1, none⟩ = some (.bool kd) ∧ W3.cell? ⟨gs, 2, none⟩ = some (.slice A nums.length cf) ∧ W3.cell? ⟨gs, 3, none⟩ = some (.bool rr) ∧ W3.cell? ⟨gs, 4, none⟩ = some (.bool qq) := ⟨box_cell HB3.out 0, box_cell HB3.out 1, box_cell HB3.out 2, box_cell HB3.out 3, box_cell HB3.out 4⟩
  rcases hways with hw | hw | hw | hw | hw | hw
  · injection hw with e1 hw; injection hw with e2 hw; injection hw with e3 e4; subst e1 e2 e3 e4
    have tQ := hQE rfl
    have tR := hRE rfl
    have tK := hSE rfl
    clear hNE hQE hRE hSE hLE
    go_wp2_with fail
    refine (HNm.out (by simp) _).mono ?_
    rintro e w4 ⟨rfl, rfl⟩
    clear HNm
    go_wp2
    go_loopw [45] (fun i wr => ∃ (k : Nat), k ≤ c.nums.length ∧ i = .int .i64 k ∧ Hid (Below W3.heap.size W3 wr)) (fun i _ => c.nums.length - (intOf i).toNat)
    case atStart => exact ⟨0, by omega, rfl, hid (Below.refl _ _)⟩
    case round =>
      obtain ⟨k, hk, rfl, HK⟩ := hrel
      replace x0 := cell_keep HK.out x0
      replace x1 := cell_keep HK.out x1
      replace x2 := cell_keep HK.out x2
      replace x3 := cell_keep HK.out x3
      replace x4 := cell_keep HK.out x4
      replace x5 := cell_keep HK.out x5
      replace y0 := cell_keep HK.out y0
      replace y1 := cell_keep HK.out y1
      replace y2 := cell_keep HK.out y2
      replace y3 := cell_keep HK.out y3
      replace y4 := cell_keep HK.out y4
      have KB := hid (HK3.out.trans (HK.out.mono HK3.out.size))
      have hbx1 : w.heap.size < wr.heap.size := by have := HK.out.size; omega
      have hgx1 : gs < wr.heap.size := by have := HK.out.size; omega
      by_cases hlt : k < c.nums.length
      · obtain ⟨b, o, rfl, hci⟩ := (HCm.out.below KB.out).ints (by omega)
        have d0 := hci k hlt
        obtain ⟨t1, t2⟩ := (HNum.out k hlt).2 (by simp)
        generalize c.nums[k] = nk at *
        have k4 := below_one wr (.cells #[.int .i64 1, .int .i64 2] 82)
        have HK5 := hid (HK.out.trans (k4.mono HK.out.size))
        clear hci HNum HPr HRw HQy k4
        go_wp2
        go_roundw
        case rel => exact ⟨k + 1, by omega, by go_num, HK5⟩
        case measure => simp [intOf]; omega
      · clear HNum HSp
        go_wp2
        go_ret
        exact ⟨rfl, KB.out⟩
  · injection hw with e1 hw; injection hw with e2 hw; injection hw with e3 e4; subst e1 e2 e3 e4
    have tQ := hQE rfl
    have tK := hLE rfl
    clear hNE hQE hRE hSE hLE
    go_wp2_with fail
    refine (HNm.out (by simp) _).mono ?_
    rintro e w4 ⟨rfl, rfl⟩
    clear HNm
    go_wp2
    go_loopw [45] (fun i wr => ∃ (k : Nat), k ≤ c.nums.length ∧ i = .int .i64 k ∧ Hid (Below W3.heap.size W3 wr)) (fun i _ => c.nums.length - (intOf i).toNat)
    case atStart => exact ⟨0, by omega, rfl, hid (Below.refl _ _)⟩
    case round =>
      obtain ⟨k, hk, rfl, HK⟩ := hrel
      replace x0 := cell_keep HK.out x0
      replace x1 := cell_keep HK.out x1
      replace x2 := cell_keep HK.out x2
      replace x3 := cell_keep HK.out x3
      replace x4 := cell_keep HK.out x4
      replace x5 := cell_keep HK.out x5
      replace y0 := cell_keep HK.out y0
      replace y1 := cell_keep HK.out y1
      replace y2 := cell_keep HK.out y2
      replace y3 := cell_keep HK.out y3
      replace y4 := cell_keep HK.out y4
      have KB := hid (HK3.out.trans (HK.out.mono HK3.out.size))
      have hbx1 : w.heap.size < wr.heap.size := by have := HK.out.size; omega
      have hgx1 : gs < wr.heap.size := by have := HK.out.size; omega
      by_cases hlt : k < c.nums.length
      · obtain ⟨b, o, rfl, hci⟩ := (HCm.out.below KB.out).ints (by omega)
        have d0 := hci k hlt
        obtain ⟨hlt2, t1, t2⟩ := (HNum.out k hlt).1 (by simp)
        obtain ⟨b2, o2, rfl, hcs⟩ := (HSp.out.below HK.out) (by omega)
        obtain ⟨z0, z1⟩ := hcs k hlt2
        have hzl : b2 < wr.heap.size := cell_lt z0
        generalize nums[k] = rk at *
        generalize c.nums[k] = nk at *
        have k4 := below_one wr (.cells #[.int .i64 rk.1, .int .i64 rk.2] 82)
        have HK5 := hid (HK.out.trans (k4.mono HK.out.size))
        clear hci hcs HNum HPr HRw HQy k4 HSp
        go_wp2
        go_roundw
        case rel => exact ⟨k + 1, by omega, by go_num, HK5⟩
        case measure => simp [intOf]; omega
      · clear HNum HSp
        have HC1 := (HCm.out.below KB.out).row
        have HV1 := hid ((HRw.out (by simp) wr HC1 (HE.out.below KB.out).env.env.tab).1)
        clear HC1
        go_wp2_with fail
        refine HV1.out.mono ?_
        rintro e w5 ⟨rfl, b5⟩
        have KB5 := hid (KB.out.trans (b5.mono KB.out.size))
        have HV2 := hid ((HRw.out (by simp) w5 (HCm.out.below KB5.out).row (HE.out.below KB5.out).env.env.tab).2)
        replace x2 := cell_keep b5 x2
        replace x3 := cell_keep b5 x3
        replace x4 := cell_keep b5 x4
        replace x5 := cell_keep b5 x5
        replace y0 := cell_keep b5 y0
        replace y1 := cell_keep b5 y1
        replace y2 := cell_keep b5 y2
        replace y3 := cell_keep b5 y3
        replace y4 := cell_keep b5 y4
        clear HV1 b5 x0 x1
        go_wp2_with fail
        refine HV2.out.mono ?_
        rintro e w6 ⟨rfl, b6⟩
        have KB6 := hid (KB5.out.trans (b6.mono KB5.out.size))
        replace x2 := cell_keep b6 x2
        replace x3 := cell_keep b6 x3
        replace x4 := cell_keep b6 x4
        replace x5 := cell_keep b6 x5
        replace y0 := cell_keep b6 y0
        replace y1 := cell_keep b6 y1
        replace y2 := cell_keep b6 y2
        replace y3 := cell_keep b6 y3
        replace y4 := cell_keep b6 y4
        have HP6 := hid (HPr.out (by simp) w6)
        clear HV2 b6 HPr HRw
        go_wp2_with fail
        refine HP6.out.mono ?_
        rintro e w7 ⟨rfl, rfl⟩
        clear HP6
        go_wp2
        go_ret
        exact ⟨rfl, KB6.out⟩
  · injection hw with e1 hw; injection hw with e2 hw; injection hw with e3 e4; subst e1 e2 e3 e4
    have tN := hNE rfl
    have tQ := hQE rfl
    have tR := hRE rfl
    have tK := hLE rfl
    clear hNE hQE hRE hSE hLE
    clear HNm
    go_wp2
    go_loopw [45] (fun i wr => ∃ (k : Nat), k ≤ c.nums.length ∧ i = .int .i64 k ∧ Hid (Below W3.heap.size W3 wr)) (fun i _ => c.nums.length - (intOf i).toNat)
    case atStart => exact ⟨0, by omega, rfl, hid (Below.refl _ _)⟩
    case round =>
      obtain ⟨k, hk, rfl, HK⟩ := hrel
      replace x0 := cell_keep HK.out x0
      replace x1 := cell_keep HK.out x1
      replace x2 := cell_keep HK.out x2
      replace x3 := cell_keep HK.out x3
      replace x4 := cell_keep HK.out x4
      replace x5 := cell_keep HK.out x5
      replace y0 := cell_keep HK.out y0
      replace y1 := cell_keep HK.out y1
      replace y2 := cell_keep HK.out y2
      replace y3 := cell_keep HK.out y3
      replace y4 := cell_keep HK.out y4
      have KB := hid (HK3.out.trans (HK.out.mono HK3.out.size))
      have hbx1 : w.heap.size < wr.heap.size := by have := HK.out.size; omega
      have hgx1 : gs < wr.heap.size := by have := HK.out.size; omega
      by_cases hlt : k < c.nums.length
      · obtain ⟨b, o, rfl, hci⟩ := (HCm.out.below KB.out).ints (by omega)
        have d0 := hci k hlt
        obtain ⟨hlt2, t1, t2⟩ := (HNum.out k hlt).1 (by simp)
        obtain ⟨b2, o2, rfl, hcs⟩ := (HSp.out.below HK.out) (by omega)
        obtain ⟨z0, z1⟩ := hcs k hlt2
        have hzl : b2 < wr.heap.size := cell_lt z0
        generalize nums[k] = rk at *
        generalize c.nums[k] = nk at *
        have k4 := below_one wr (.cells #[.int .i64 rk.1, .int .i64 rk.2] 82)
        have HK5 := hid (HK.out.trans (k4.mono HK.out.size))
        clear hci hcs HNum HPr HRw HQy k4 HSp
        go_wp2
        go_roundw
        case rel => exact ⟨k + 1, by omega, by go_num, HK5⟩
        case measure => simp [intOf]; omega
      · clear HNum HSp
        go_wp2
        go_ret
        exact ⟨rfl, KB.out⟩
  · injection hw with e1 hw; injection hw with e2 hw; injection hw with e3 e4; subst e1 e2 e3 e4
    have tN := hNE rfl
    have tR := hRE rfl
    have tK := hLE rfl
    clear hNE hQE hRE hSE hLE
    clear HNm
    go_wp2
    go_loopw [45] (fun i wr => ∃ (k : Nat), k ≤ c.nums.length ∧ i = .int .i64 k ∧ Hid (Below W3.heap.size W3 wr)) (fun i _ => c.nums.length - (intOf i).toNat)
    case atStart => exact ⟨0, by omega, rfl, hid (Below.refl _ _)⟩
    case round =>
      obtain ⟨k, hk, rfl, HK⟩ := hrel
      replace x0 := cell_keep HK.out x0
      replace x1 := cell_keep HK.out x1
      replace x2 := cell_keep HK.out x2
      replace x3 := cell_keep HK.out x3
      replace x4 := cell_keep HK.out x4
      replace x5 := cell_keep HK.out x5
      replace y0 := cell_keep HK.out y0
      replace y1 := cell_keep HK.out y1
      replace y2 := cell_keep HK.out y2
      replace y3 := cell_keep HK.out y3
      replace y4 := cell_keep HK.out y4
      have KB := hid (HK3.out.trans (HK.out.mono HK3.out.size))
      have hbx1 : w.heap.size < wr.heap.size := by have := HK.out.size; omega
      have hgx1 : gs < wr.heap.size := by have := HK.out.size; omega
      by_cases hlt : k < c.nums.length
      · obtain ⟨b, o, rfl, hci⟩ := (HCm.out.below KB.out).ints (by omega)
        have d0 := hci k hlt
        obtain ⟨hlt2, t1, t2⟩ := (HNum.out k hlt).1 (by simp)
        obtain ⟨b2, o2, rfl, hcs⟩ := (HSp.out.below HK.out) (by omega)
        obtain ⟨z0, z1⟩ := hcs k hlt2
        have hzl : b2 < wr.heap.size := cell_lt z0
        generalize nums[k] = rk at *
        generalize c.nums[k] = nk at *
        have k4 := below_one wr (.cells #[.int .i64 rk.1, .int .i64 rk.2] 82)
        have HK5 := hid (HK.out.trans (k4.mono HK.out.size))
        clear hci hcs HNum HPr HRw HQy k4 HSp
        go_wp2
        go_roundw
        case rel => exact ⟨k + 1, by omega, by go_num, HK5⟩
        case measure => simp [intOf]; omega
      · clear HNum HSp
        have HQ1 := hid (HQy.out (by simp) _ (HE.out.below KB.out).env)
        clear HQy
        go_wp2_with fail
        refine HQ1.out.mono ?_
        rintro e w8 ⟨rfl, b8⟩
        have KB8 := hid (KB.out.trans (b8.mono KB.out.size))
        replace x2 := cell_keep b8 x2
        replace x3 := cell_keep b8 x3
        replace x4 := cell_keep b8 x4
        replace x5 := cell_keep b8 x5
        replace y0 := cell_keep b8 y0
        replace y1 := cell_keep b8 y1
        replace y2 := cell_keep b8 y2
        replace y3 := cell_keep b8 y3
        replace y4 := cell_keep b8 y4
        clear HQ1 b8
        go_wp2
        go_ret
        exact ⟨rfl, KB8.out⟩
  · injection hw with e1 hw; injection hw with e2 hw; injection hw with e3 e4; subst e1 e2 e3 e4
    have tN := hNE rfl
    have tQ := hQE rfl
    have tK := hLE rfl
    clear hNE hQE hRE hSE hLE
    clear HNm
    go_wp2
    go_loopw [45] (fun i wr => ∃ (k : Nat), k ≤ c.nums.length ∧ i = .int .i64 k ∧ Hid (Below W3.heap.size W3 wr)) (fun i _ => c.nums.length - (intOf i).toNat)
    case atStart => exact ⟨0, by omega, rfl, hid (Below.refl _ _)⟩
    case round =>
      obtain ⟨k, hk, rfl, HK⟩ := hrel
      replace x0 := cell_keep HK.out x0
      replace x1 := cell_keep HK.out x1
      replace x2 := cell_keep HK.out x2
      replace x3 := cell_keep HK.out x3
      replace x4 := cell_keep HK.out x4
      replace x5 := cell_keep HK.out x5
      replace y0 := cell_keep HK.out y0
      replace y1 := cell_keep HK.out y1
      replace y2 := cell_keep HK.out y2
      replace y3 := cell_keep HK.out y3
      replace y4 := cell_keep HK.out y4
      have KB := hid (HK3.out.trans (HK.out.mono HK3.out.size))
      have hbx1 : w.heap.size < wr.heap.size := by have := HK.out.size; omega
      have hgx1 : gs < wr.heap.size := by have := HK.out.size; omega
      by_cases hlt : k < c.nums.length
      · obtain ⟨b, o, rfl, hci⟩ := (HCm.out.below KB.out).ints (by omega)
        have d0 := hci k hlt
        obtain ⟨hlt2, t1, t2⟩ := (HNum.out k hlt).1 (by simp)
        obtain ⟨b2, o2, rfl, hcs⟩ := (HSp.out.below HK.out) (by omega)
        obtain ⟨z0, z1⟩ := hcs k hlt2
        have hzl : b2 < wr.heap.size := cell_lt z0
        generalize nums[k] = rk at *
        generalize c.nums[k] = nk at *
        have k4 := below_one wr (.cells #[.int .i64 rk.1, .int .i64 rk.2] 82)
        have HK5 := hid (HK.out.trans (k4.mono HK.out.size))
        clear hci hcs HNum HPr HRw HQy k4 HSp
        go_wp2
        go_roundw
        case rel => exact ⟨k + 1, by omega, by go_num, HK5⟩
        case measure => simp [intOf]; omega
      · clear HNum HSp
        have HC1 := (HCm.out.below KB.out).row
        have HV1 := hid ((HRw.out (by simp) wr HC1 (HE.out.below KB.out).env.env.tab).1)
        clear HC1
        go_wp2_with fail
        refine HV1.out.mono ?_
        rintro e w5 ⟨rfl, b5⟩
        have KB5 := hid (KB.out.trans (b5.mono KB.out.size))
        have HV2 := hid ((HRw.out (by simp) w5 (HCm.out.below KB5.out).row (HE.out.below KB5.out).env.env.tab).2)
        replace x2 := cell_keep b5 x2
        replace x3 := cell_keep b5 x3
        replace x4 := cell_keep b5 x4
        replace x5 := cell_keep b5 x5
        replace y0 := cell_keep b5 y0
        replace y1 := cell_keep b5 y1
        replace y2 := cell_keep b5 y2
        replace y3 := cell_keep b5 y3
        replace y4 := cell_keep b5 y4
        clear HV1 b5 x0 x1
        go_wp2_with fail
        refine HV2.out.mono ?_
        rintro e w6 ⟨rfl, b6⟩
        have KB6 := hid (KB5.out.trans (b6.mono KB5.out.size))
        replace x2 := cell_keep b6 x2
        replace x3 := cell_keep b6 x3
        replace x4 := cell_keep b6 x4
        replace x5 := cell_keep b6 x5
        replace y0 := cell_keep b6 y0
        replace y1 := cell_keep b6 y1
        replace y2 := cell_keep b6 y2
        replace y3 := cell_keep b6 y3
        replace y4 := cell_keep b6 y4
        have HP6 := hid (HPr.out (by simp) w6)
        clear HV2 b6 HPr HRw
        go_wp2_with fail
        refine HP6.out.mono ?_
        rintro e w7 ⟨rfl, rfl⟩
        clear HP6
        go_wp2
        go_ret
        exact ⟨rfl, KB6.out⟩
  · injection hw with e1 hw; injection hw with e2 hw; injection hw with e3 e4; subst e1 e2 e3 e4
    have tN := hNE rfl
    have tK := hLE rfl
    clear hNE hQE hRE hSE hLE
    clear HNm
    go_wp2
    go_loopw [45] (fun i wr => ∃ (k : Nat), k ≤ c.nums.length ∧ i = .int .i64 k ∧ Hid (Below W3.heap.size W3 wr)) (fun i _ => c.nums.length - (intOf i).toNat)
    case atStart => exact ⟨0, by omega, rfl, hid (Below.refl _ _)⟩
    case round =>
      obtain ⟨k, hk, rfl, HK⟩ := hrel
      replace x0 := cell_keep HK.out x0
      replace x1 := cell_keep HK.out x1
      replace x2 := cell_keep HK.out x2
      replace x3 := cell_keep HK.out x3
      replace x4 := cell_keep HK.out x4
      replace x5 := cell_keep HK.out x5
      replace y0 := cell_keep HK.out y0
      replace y1 := cell_keep HK.out y1
      replace y2 := cell_keep HK.out y2
      replace y3 := cell_keep HK.out y3
      replace y4 := cell_keep HK.out y4
      have KB := hid (HK3.out.trans (HK.out.mono HK3.out.size))
      have hbx1 : w.heap.size < wr.heap.size := by have := HK.out.size; omega
      have hgx1 : gs < wr.heap.size := by have := HK.out.size; omega
      by_cases hlt : k < c.nums.length
      · obtain ⟨b, o, rfl, hci⟩ := (HCm.out.below KB.out).ints (by omega)
        have d0 := hci k hlt
        obtain ⟨hlt2, t1, t2⟩ := (HNum.out k hlt).1 (by simp)
        obtain ⟨b2, o2, rfl, hcs⟩ := (HSp.out.below HK.out) (by omega)
        obtain ⟨z0, z1⟩ := hcs k hlt2
        have hzl : b2 < wr.heap.size := cell_lt z0
        generalize nums[k] = rk at *
        generalize c.nums[k] = nk at *
        have k4 := below_one wr (.cells #[.int .i64 rk.1, .int .i64 rk.2] 82)
        have HK5 := hid (HK.out.trans (k4.mono HK.out.size))
        clear hci hcs HNum HPr HRw HQy k4 HSp
        go_wp2
        go_roundw
        case rel => exact ⟨k + 1, by omega, by go_num, HK5⟩
        case measure => simp [intOf]; omega
      · clear HNum HSp
        have HC1 := (HCm.out.below KB.out).row
        have HV1 := hid ((HRw.out (by simp) wr HC1 (HE.out.below KB.out).env.env.tab).1)
        clear HC1
        go_wp2_with fail
        refine HV1.out.mono ?_
        rintro e w5 ⟨rfl, b5⟩
        have KB5 := hid (KB.out.trans (b5.mono KB.out.size))
        have HV2 := hid ((HRw.out (by simp) w5 (HCm.out.below KB5.out).row (HE.out.below KB5.out).env.env.tab).2)
        replace x2 := cell_keep b5 x2
        replace x3 := cell_keep b5 x3
        replace x4 := cell_keep b5 x4
        replace x5 := cell_keep b5 x5
        replace y0 := cell_keep b5 y0
        replace y1 := cell_keep b5 y1
        replace y2 := cell_keep b5 y2
        replace y3 := cell_keep b5 y3
        replace y4 := cell_keep b5 y4
        clear HV1 b5 x0 x1
        go_wp2_with fail
        refine HV2.out.mono ?_
        rintro e w6 ⟨rfl, b6⟩
        have KB6 := hid (KB5.out.trans (b6.mono KB5.out.size))
        replace x2 := cell_keep b6 x2
        replace x3 := cell_keep b6 x3
        replace x4 := cell_keep b6 x4
        replace x5 := cell_keep b6 x5
        replace y0 := cell_keep b6 y0
        replace y1 := cell_keep b6 y1
        replace y2 := cell_keep b6 y2
        replace y3 := cell_keep b6 y3
        replace y4 := cell_keep b6 y4
        have HP6 := hid (HPr.out (by simp) w6)
        clear HV2 b6 HPr HRw
        go_wp2_with fail
        refine HP6.out.mono ?_
        rintro e w7 ⟨rfl, rfl⟩
        clear HP6
        have HQ1 := hid (HQy.out (by simp) _ (HE.out.below KB6.out).env)
        clear HQy
        go_wp2_with fail
        refine HQ1.out.mono ?_
        rintro e w8 ⟨rfl, b8⟩
        have KB8 := hid (KB6.out.trans (b8.mono KB6.out.size))
        replace x2 := cell_keep b8 x2
        replace x3 := cell_keep b8 x3
        replace x4 := cell_keep b8 x4
        replace x5 := cell_keep b8 x5
        replace y0 := cell_keep b8 y0
        replace y1 := cell_keep b8 y1
        replace y2 := cell_keep b8 y2
        replace y3 := cell_keep b8 y3
        replace y4 := cell_keep b8 y4
        clear HQ1 b8
        go_wp2
        go_ret
        exact ⟨rfl, KB8.out⟩
end
end Go.Proofs.YtjhnopnppimnhaaGreatDoor
