/-
  PARTS of a claim, merged by segs.py: Sk13.
-/
import Derived.Test.YtjhnopnppimnhaaGreatDoorZ37
import Derived.Test.YtjhnopnppimnhaaGreatDoorZ15
namespace Go.Proofs.YtjhnopnppimnhaaGreatDoor

/-! ### Sk13 -/
section
open Go.RowKit

section
variable {n : Int} {c : Cm} {U V : Value} {f : Shp} {A : Option Addr} {cf gs : Nat} {w W : World}
set_option maxRecDepth 100000 in
theorem wd_join {x : Str} {r : List Str} {l : List Str} {u : Value} (h : WdI n c U V f A cf gs w W l u) (hl : l = x :: r) (hb : (x ++ flat32 r).length ≤ 200000) {J : ByteArray} (hJ : (⟨(x ++ flat32 r).toArray⟩ : ByteArray) = J) :
    Calls Tryz.prog 37 #[u, .string ⟨#[32]⟩] W fun e W' => e = .returned (.string J) ∧ Below W.heap.size W W' := by
  subst hl hJ
  obtain ⟨hl, h0 | ⟨g, cap, cur, e, hB, hh, hn, hm, hs, ht⟩⟩ := h.own
  · exact absurd h0.2 (by simp)
  · subst e
    have hlen : ((x :: r).map fun s => (⟨s.toArray⟩ : ByteArray)).length = (x :: r).length := by simp
    have hmap : (((x :: r).map fun s => (⟨s.toArray⟩ : ByteArray)).map (·.data.toList)) = x :: r := by
      rw [List.map_map]
      simp [Function.comp_def]
    have hr := len_flat r
    simp only [List.length_append] at hb
    have H := Tryz.strings_Join g 0 cap ((x :: r).map fun s => (⟨s.toArray⟩ : ByteArray)) ⟨#[32]⟩ W (fun j y hy => by
      rw [box_cell hh, Nat.zero_add]
      rw [Nat.mul_one] at ht
      have hj : j < (x :: r).length := by rw [← hlen]; exact (List.getElem?_eq_some_iff.1 hy).1
      have h2 : (cur.toList.take (x :: r).length)[j]? = some (.string y) := by
        rw [ht, List.getElem?_map]
        rw [List.getElem?_map] at hy
        cases hq : (x :: r)[j]? with
        | none => rw [hq] at hy; cases hy
        | some s => rw [hq] at hy; injection hy with hy; rw [← hy]; rfl
      rw [List.getElem?_take_of_lt hj] at h2
      simpa using h2) (lt_of_block hh) (by rw [hlen]; simp only [List.length_cons]; omega) (by rw [hlen]; exact hn) (by
      rw [hmap]
      show (Lib.join (x :: r) [32]).length ≤ _
      rw [join_flat, List.length_append]; omega)
    rw [hlen, hmap] at H
    refine H.mono fun e W' ⟨h1, h2⟩ => ⟨?_, h2⟩
    rw [h1, show (⟨#[32]⟩ : ByteArray).data.toList = [32] from rfl, join_flat]
end

set_option maxRecDepth 100000 in
set_option maxHeartbeats 8000000 in
theorem scr_text (n : Int) (c : Cm) (Tn R : Option Addr) (ct cr : Nat) (w : World) (hE : EnvS w) (hc : CmAt w Tn ct R cr c) (hok : CmOk c) (hlen : (textC c).length ≤ 100000) :
    Calls Tryz.prog 22 #[.agg (cmA n c (.slice Tn c.nums.length ct) (.slice R c.row.length cr))] w fun e w' => e = .returned (.string ⟨(textC c).toArray⟩) ∧ Below w.heap.size w w' := by
  have hop := hok.op
  obtain ⟨f, hf⟩ : ∃ f, shpOf c.op = f := ⟨_, rfl⟩
  have hways := shp_ways hop
  have hkd := (shp_kinds c.op).1
  have hrow := hok.row
  have hsix := hok.six
  have hparts : Hid (textC c = nam6.getD c.op [] ++ flat32 ((if f.name = true then [c.name] else []) ++ (c.nums.map (numT c.op) ++ ((if f.row = true then [rowTextL c.row] else []) ++ (if f.query = true then [c.query] else [])))) ++ [10]) := hid (by rw [← hf]; rfl)
  rw [hf] at hways hkd hrow hsix
  have hfl : ∀ p ∈ ((if f.name = true then [c.name] else []) ++ (c.nums.map (numT c.op) ++ ((if f.row = true then [rowTextL c.row] else []) ++ (if f.query = true then [c.query] else [])))), p.length ≤ 100000 := fun p hp => by
    have := mem_flat hp
    rw [hparts.out, List.length_append, List.length_append] at hlen
    omega
  have hnl : c.nums.length ≤ 100000 := by
    have := len_flat ((if f.name = true then [c.name] else []) ++ (c.nums.map (numT c.op) ++ ((if f.row = true then [rowTextL c.row] else []) ++ (if f.query = true then [c.query] else []))))
    rw [hparts.out, List.length_append, List.length_append] at hlen
    simp only [List.length_append, List.length_map] at this
    omega
  have HNum : Hid (∀ k (h : k < c.nums.length), (f.kinds = false → numT c.op c.nums[k] = Lib.itoa c.nums[k]) ∧ I64 c.nums[k] ∧ (f.kinds = true → (c.nums[k] = 1 ∧ numT c.op c.nums[k] = sInt) ∨ (c.nums[k] = 2 ∧ numT c.op c.nums[k] = sStr))) := hid (fun k h => by
    have hm := List.getElem_mem h
    refine ⟨fun hk => ?_, hok.i64 _ hm, fun hk => ?_⟩
    · unfold numT
      rw [if_neg (fun e => by have := hkd.2 e; rw [hk] at this; cases this)]
    · unfold numT
      rw [if_pos (hkd.1 hk)]
      rcases (hsix hk).2 _ hm with e | e
      · left; exact ⟨e, by rw [e, if_pos rfl]⟩
      · right; exact ⟨e, by rw [e, if_neg (by decide)]⟩)
  have HRow : Hid (f.row = true → ∀ W, RowAt W R c.row → Tab W → Calls Tryz.prog 16 #[.slice R c.row.length cr] W fun e W' => e = .returned (.string ⟨(rowTextL c.row).toArray⟩) ∧ Below W.heap.size W W') := hid (fun hr W hR ht => by
    have h1 := (hrow hr).1
    have h2 := row_len h1
    have h3 := hfl (rowTextL c.row) (by rw [hr, if_pos rfl]; simp)
    exact row_textB R cr c.row W hR (by omega) (text_ok h1).1 ht rfl)
  have HInt := hid (fun (k : Int) (W : World) (h : I64 k) (ht : Tab W) => formatInt k h W ht)
  have HCm := hid hc
  have HE := hid hE
  have HLn := hid hlen
  have k0 := below_one w (.cells (cmA n c (.slice Tn c.nums.length ct) (.slice R c.row.length cr)) 35)
  have hb0 := heap_alloc_new w (.cells (cmA n c (.slice Tn c.nums.length ct) (.slice R c.row.length cr)) 35)
  have HSh := hid (shape_of hop (w.alloc (.cells (cmA n c (.slice Tn c.nums.length ct) (.slice R c.row.length cr)) 35)))
  rw [hf] at HSh
  have HNm := hid (fun W (k : Below w.heap.size w W) => scr_name (c.op : Int) W (HE.out.nam.below k) (by unfold I64; omega) (op_name hop))
  clear hc hE hok hkd hrow hsix hfl hlen
  go_enter Tryz.func22, Tryz.ntmps22
  go_wp2_with fail
  refine HSh.out.mono ?_
  rintro e w2 ⟨A, cf, rfl, -, -, b2⟩
  have hb2 := (b2.block _ (lt_of_block hb0)).trans hb0
  have k2 := k0.trans (b2.mono k0.size)
  have hl2 := lt_of_block hb2
  obtain ⟨nm, kd, nums, rr, qq⟩ := f
  simp only at *
  have k3 := below_one w2 (.cells #[.bool nm, .bool kd, .slice A nums.length cf, .bool rr, .bool qq] 76)
  have hb3 := heap_alloc_new w2 (.cells #[.bool nm, .bool kd, .slice A nums.length cf, .bool rr, .bool qq] 76)
  have HNm2 := hid (HNm.out _ (k2.trans (k3.mono k2.size)))
  obtain ⟨nam, hnam⟩ : ∃ nam, nam6.getD c.op [] = nam := ⟨_, rfl⟩
  rw [hnam] at HNm2 hparts
  obtain ⟨W3, hW3⟩ : ∃ W3, ((w2.alloc (.cells #[.bool nm, .bool kd, .slice A nums.length cf, .bool rr, .bool qq] 76)).alloc (.cells #[.string ⟨nam.toArray⟩] 9)) = W3 := ⟨_, rfl⟩
  have I0 : Hid (WdI n c (.slice Tn c.nums.length ct) (.slice R c.row.length cr) ⟨nm, kd, nums, rr, qq⟩ A cf w2.heap.size w W3 [nam] (.slice (some ⟨w2.heap.size + 1, 0, none⟩) 1 1)) := hid (by
    rw [← hW3]
    refine ⟨?_, ?_, hl2, ?_, k2.trans ((below_two w2 _ _).mono k2.size)⟩
    · rw [Below.heap_alloc _ _ _ (by simp; omega), Below.heap_alloc _ _ _ hl2]; exact hb2
    · rw [Below.heap_alloc _ _ _ (by simp)]; exact hb3
    · have := World.ownsRow_lit (base := w2.heap.size + 1) (size := 1) (e := 9) (w2.alloc (.cells #[.bool nm, .bool kd, .slice A nums.length cf, .bool rr, .bool qq] 76)) #[.string ⟨nam.toArray⟩] 1 (by simp) (by unfold maxLen; omega) rfl
      rw [World.size_alloc] at this
      exact this)
  have HW3 := hid hW3
  have HHn := hid hnam
  have q1 := box_cell hb2 1
  clear HSh HNm hb0 k0 hW3 hnam hf
  go_wp2_with fail
  refine HNm2.out.mono ?_
  rintro e w3 ⟨rfl, rfl⟩
  clear HNm2 hb2 b2 k2 k3 hb3 q1
  go_upto_region 3 with (first | rw [HW3.out] | fail)
  generalize (Value.slice (some ⟨w2.heap.size + 1, 0, none⟩) 1 1) = u0 at *
  generalize w2.heap.size = gs at *
  clear HW3
  rcases hways with hw | hw | hw | hw | hw | hw
  · injection hw with e1 hw; injection hw with e2 hw; injection hw with e3 e4; subst e1 e2 e3 e4
    obtain ⟨x1, x2, x3, x4, x5, y0, y1, y2, y3, y4, ysz⟩ := I0.out.cells
    go_wp2_with (first | (at_builtin; (first | refine wd_append (s := c.name) rfl (by assumption) (by simp <;> omega) rfl rfl rfl rfl (by simp) ?_ | refine wd_append (s := rowTextL c.row) rfl (by assumption) (by simp <;> omega) rfl rfl rfl rfl (by simp) ?_ | refine wd_append (s := c.query) rfl (by assumption) (by simp <;> omega) rfl rfl rfl rfl (by simp) ?_); intro u9 W9 HI9; obtain ⟨x1, x2, x3, x4, x5, y0, y1, y2, y3, y4, ysz⟩ := HI9.out.cells) | fail)
    have HJ := hid HI9.out
    go_loopw [24, 4] (fun i u wr => ∃ (k : Nat), k ≤ c.nums.length ∧ i = .int .i64 k ∧ Hid (WdI n c (.slice Tn c.nums.length ct) (.slice R c.row.length cr) ⟨true, true, nums, false, false⟩ A cf gs w wr ([nam] ++ [c.name] ++ (c.nums.take k).map (numT c.op)) u)) (fun i _ _ => c.nums.length - (intOf i).toNat)
    case atStart => exact ⟨0, by omega, rfl, hid (by simpa using HJ.out)⟩
    case round =>
      obtain ⟨k, hk, rfl, HK⟩ := hrel
      clear HJ x1 x2 x3 x4 x5 y0 y1 y2 y3 y4 ysz I0 HI9
      obtain ⟨x1, x2, x3, x4, x5, y0, y1, y2, y3, y4, ysz⟩ := HK.out.cells
      by_cases hlt : k < c.nums.length
      · have hin := (HCm.out.below HK.out.bel).ints
        obtain ⟨b, o, rfl, hci⟩ := hin (by omega)
        have d0 := hci k hlt
        obtain ⟨hn1, hn2, hn3⟩ := HNum.out k hlt
        have HT : Hid ([nam] ++ [c.name] ++ (c.nums.take (k + 1)).map (numT c.op) = [nam] ++ [c.name] ++ (c.nums.take k).map (numT c.op) ++ [numT c.op c.nums[k]]) := hid (by
          rw [List.take_succ_eq_append_getElem hlt, List.map_append]
          simp)
        have hll : ([nam] ++ [c.name] ++ (c.nums.take k).map (numT c.op)).length ≤ 200000 := by simp <;> omega
        have HLl := hid hll
        generalize c.nums[k] = nk at *
        clear hci hll hin
        rcases hn3 (by simp) with ⟨e1, e2⟩ | ⟨e1, e2⟩
        · rw [e2] at HT
          have HTt := hid HT.out
          subst e1
          clear hn1 hn3 hn2 HNum HRow HInt HT e2
          go_wp2_with (first | (at_builtin; refine wd_append (s := sInt) rfl HK HLl.out rfl rfl rfl rfl (by simp) ?_; intro u9 W9 HI9) | fail)
          go_roundw
          case rel => exact ⟨k + 1, by omega, by go_num, hid (by rw [HTt.out]; simpa using HI9.out)⟩
          case measure => simp [intOf]; omega
        · rw [e2] at HT
          have HTt := hid HT.out
          subst e1
          clear hn1 hn3 hn2 HNum HRow HInt HT e2
          go_wp2_with (first | (at_builtin; refine wd_append (s := sStr) rfl HK HLl.out rfl rfl rfl rfl (by simp) ?_; intro u9 W9 HI9) | fail)
          go_roundw
          case rel => exact ⟨k + 1, by omega, by go_num, hid (by rw [HTt.out]; simpa using HI9.out)⟩
          case measure => simp [intOf]; omega
      · have HT : Hid ([nam] ++ [c.name] ++ (c.nums.take k).map (numT c.op) = [nam] ++ [c.name] ++ c.nums.map (numT c.op)) := hid (by rw [List.take_of_length_le (by omega)])
        rw [HT.out] at HK
        clear HT HNum HInt
        have hT : textC c = (nam ++ flat32 ([c.name] ++ (c.nums.map (numT c.op) ++ ([] ++ [])))) ++ [10] := hparts.out
        have hb9 : (nam ++ flat32 ([c.name] ++ (c.nums.map (numT c.op) ++ ([] ++ [])))).length ≤ 200000 := by have := HLn.out; rw [hT, List.length_append] at this; omega
        obtain ⟨Js, hJs⟩ : ∃ Js : ByteArray, (⟨(nam ++ flat32 ([c.name] ++ (c.nums.map (numT c.op) ++ ([] ++ [])))).toArray⟩ : ByteArray) = Js := ⟨_, rfl⟩
        have hJz : Js.size ≤ 200000 := by rw [← hJs, size_l]; exact hb9
        have HJn := hid (wd_join HK.out (by simp) hb9 hJs)
        have HTx := hid hT
        have HJs := hid hJs
        have HBl := hid HK.out.bel
        clear hT hb9 hJs
        go_wp2_with fail
        refine HJn.out.mono ?_
        rintro e w6 ⟨rfl, b6⟩
        have HB6 := hid (HBl.out.trans (b6.mono HBl.out.size))
        clear HJn b6
        go_wp2
        go_ret
        exact ⟨by rw [← HJs.out]; exact ret_cat HTx.out.symm, HB6.out⟩
  · injection hw with e1 hw; injection hw with e2 hw; injection hw with e3 e4; subst e1 e2 e3 e4
    obtain ⟨x1, x2, x3, x4, x5, y0, y1, y2, y3, y4, ysz⟩ := I0.out.cells
    go_wp2_with (first | (at_builtin; (first | refine wd_append (s := c.name) rfl (by assumption) (by simp <;> omega) rfl rfl rfl rfl (by simp) ?_ | refine wd_append (s := rowTextL c.row) rfl (by assumption) (by simp <;> omega) rfl rfl rfl rfl (by simp) ?_ | refine wd_append (s := c.query) rfl (by assumption) (by simp <;> omega) rfl rfl rfl rfl (by simp) ?_); intro u9 W9 HI9; obtain ⟨x1, x2, x3, x4, x5, y0, y1, y2, y3, y4, ysz⟩ := HI9.out.cells) | fail)
    have HJ := hid HI9.out
    go_loopw [24, 4] (fun i u wr => ∃ (k : Nat), k ≤ c.nums.length ∧ i = .int .i64 k ∧ Hid (WdI n c (.slice Tn c.nums.length ct) (.slice R c.row.length cr) ⟨true, false, nums, true, false⟩ A cf gs w wr ([nam] ++ [c.name] ++ (c.nums.take k).map (numT c.op)) u)) (fun i _ _ => c.nums.length - (intOf i).toNat)
    case atStart => exact ⟨0, by omega, rfl, hid (by simpa using HJ.out)⟩
    case round =>
      obtain ⟨k, hk, rfl, HK⟩ := hrel
      clear HJ x1 x2 x3 x4 x5 y0 y1 y2 y3 y4 ysz I0 HI9
      obtain ⟨x1, x2, x3, x4, x5, y0, y1, y2, y3, y4, ysz⟩ := HK.out.cells
      by_cases hlt : k < c.nums.length
      · have hin := (HCm.out.below HK.out.bel).ints
        obtain ⟨b, o, rfl, hci⟩ := hin (by omega)
        have d0 := hci k hlt
        obtain ⟨hn1, hn2, hn3⟩ := HNum.out k hlt
        have HT : Hid ([nam] ++ [c.name] ++ (c.nums.take (k + 1)).map (numT c.op) = [nam] ++ [c.name] ++ (c.nums.take k).map (numT c.op) ++ [numT c.op c.nums[k]]) := hid (by
          rw [List.take_succ_eq_append_getElem hlt, List.map_append]
          simp)
        have hll : ([nam] ++ [c.name] ++ (c.nums.take k).map (numT c.op)).length ≤ 200000 := by simp <;> omega
        have HLl := hid hll
        generalize c.nums[k] = nk at *
        clear hci hll hin
        have HF := hid (HInt.out nk wr hn2 (HE.out.env.env.tab.below HK.out.bel))
        have e1 := hn1 (by simp)
        rw [e1] at HT
        have HTt := hid HT.out
        clear hn1 hn3 hn2 HNum HRow HInt HT e1
        go_wp2_with fail
        refine HF.out.mono ?_
        rintro e w5 ⟨rfl, b5⟩
        have HK5 := hid (HK.out.on b5)
        obtain ⟨x1, x2, x3, x4, x5, y0, y1, y2, y3, y4, ysz⟩ := HK5.out.cells
        clear HF b5 HK
        go_wp2_with (first | (at_builtin; refine wd_append (s := Lib.itoa nk) rfl HK5 HLl.out rfl rfl rfl rfl (by simp) ?_; intro u9 W9 HI9) | fail)
        go_roundw
        case rel => exact ⟨k + 1, by omega, by go_num, hid (by rw [HTt.out]; simpa using HI9.out)⟩
        case measure => simp [intOf]; omega
      · have HT : Hid ([nam] ++ [c.name] ++ (c.nums.take k).map (numT c.op) = [nam] ++ [c.name] ++ c.nums.map (numT c.op)) := hid (by rw [List.take_of_length_le (by omega)])
        rw [HT.out] at HK
        clear HT HNum HInt
        have HF := hid (HRow.out (by simp) wr (HCm.out.below HK.out.bel).row (HE.out.env.env.tab.below HK.out.bel))
        clear HRow
        go_wp2_with fail
        refine HF.out.mono ?_
        rintro e w5 ⟨rfl, b5⟩
        have HK5 := hid (HK.out.on b5)
        obtain ⟨x1, x2, x3, x4, x5, y0, y1, y2, y3, y4, ysz⟩ := HK5.out.cells
        clear HF b5 HK
        go_wp2_with (first | (at_builtin; (first | refine wd_append (s := c.name) rfl (by assumption) (by simp <;> omega) rfl rfl rfl rfl (by simp) ?_ | refine wd_append (s := rowTextL c.row) rfl (by assumption) (by simp <;> omega) rfl rfl rfl rfl (by simp) ?_ | refine wd_append (s := c.query) rfl (by assumption) (by simp <;> omega) rfl rfl rfl rfl (by simp) ?_); intro u9 W9 HI9; obtain ⟨x1, x2, x3, x4, x5, y0, y1, y2, y3, y4, ysz⟩ := HI9.out.cells) | fail)
        have hT : textC c = (nam ++ flat32 ([c.name] ++ (c.nums.map (numT c.op) ++ ([rowTextL c.row] ++ [])))) ++ [10] := hparts.out
        have hb9 : (nam ++ flat32 ([c.name] ++ (c.nums.map (numT c.op) ++ ([rowTextL c.row] ++ [])))).length ≤ 200000 := by have := HLn.out; rw [hT, List.length_append] at this; omega
        obtain ⟨Js, hJs⟩ : ∃ Js : ByteArray, (⟨(nam ++ flat32 ([c.name] ++ (c.nums.map (numT c.op) ++ ([rowTextL c.row] ++ [])))).toArray⟩ : ByteArray) = Js := ⟨_, rfl⟩
        have hJz : Js.size ≤ 200000 := by rw [← hJs, size_l]; exact hb9
        have HJn := hid (wd_join HI9.out (by simp) hb9 hJs)
        have HTx := hid hT
        have HJs := hid hJs
        have HBl := hid HI9.out.bel
        clear hT hb9 hJs
        refine HJn.out.mono ?_
        rintro e w6 ⟨rfl, b6⟩
        have HB6 := hid (HBl.out.trans (b6.mono HBl.out.size))
        clear HJn b6
        go_wp2
        go_ret
        exact ⟨by rw [← HJs.out]; exact ret_cat HTx.out.symm, HB6.out⟩
  · injection hw with e1 hw; injection hw with e2 hw; injection hw with e3 e4; subst e1 e2 e3 e4
    obtain ⟨x1, x2, x3, x4, x5, y0, y1, y2, y3, y4, ysz⟩ := I0.out.cells
    go_wp2_with (first | (at_builtin; (first | refine wd_append (s := c.name) rfl (by assumption) (by simp <;> omega) rfl rfl rfl rfl (by simp) ?_ | refine wd_append (s := rowTextL c.row) rfl (by assumption) (by simp <;> omega) rfl rfl rfl rfl (by simp) ?_ | refine wd_append (s := c.query) rfl (by assumption) (by simp <;> omega) rfl rfl rfl rfl (by simp) ?_); intro u9 W9 HI9; obtain ⟨x1, x2, x3, x4, x5, y0, y1, y2, y3, y4, ysz⟩ := HI9.out.cells) | fail)
    have HJ := hid I0.out
    go_loopw [24, 4] (fun i u wr => ∃ (k : Nat), k ≤ c.nums.length ∧ i = .int .i64 k ∧ Hid (WdI n c (.slice Tn c.nums.length ct) (.slice R c.row.length cr) ⟨false, false, nums, false, false⟩ A cf gs w wr ([nam] ++ (c.nums.take k).map (numT c.op)) u)) (fun i _ _ => c.nums.length - (intOf i).toNat)
    case atStart => exact ⟨0, by omega, rfl, hid (by simpa using HJ.out)⟩
    case round =>
      obtain ⟨k, hk, rfl, HK⟩ := hrel
      clear HJ x1 x2 x3 x4 x5 y0 y1 y2 y3 y4 ysz I0
      obtain ⟨x1, x2, x3, x4, x5, y0, y1, y2, y3, y4, ysz⟩ := HK.out.cells
      by_cases hlt : k < c.nums.length
      · have hin := (HCm.out.below HK.out.bel).ints
        obtain ⟨b, o, rfl, hci⟩ := hin (by omega)
        have d0 := hci k hlt
        obtain ⟨hn1, hn2, hn3⟩ := HNum.out k hlt
        have HT : Hid ([nam] ++ (c.nums.take (k + 1)).map (numT c.op) = [nam] ++ (c.nums.take k).map (numT c.op) ++ [numT c.op c.nums[k]]) := hid (by
          rw [List.take_succ_eq_append_getElem hlt, List.map_append]
          simp)
        have hll : ([nam] ++ (c.nums.take k).map (numT c.op)).length ≤ 200000 := by simp <;> omega
        have HLl := hid hll
        generalize c.nums[k] = nk at *
        clear hci hll hin
        have HF := hid (HInt.out nk wr hn2 (HE.out.env.env.tab.below HK.out.bel))
        have e1 := hn1 (by simp)
        rw [e1] at HT
        have HTt := hid HT.out
        clear hn1 hn3 hn2 HNum HRow HInt HT e1
        go_wp2_with fail
        refine HF.out.mono ?_
        rintro e w5 ⟨rfl, b5⟩
        have HK5 := hid (HK.out.on b5)
        obtain ⟨x1, x2, x3, x4, x5, y0, y1, y2, y3, y4, ysz⟩ := HK5.out.cells
        clear HF b5 HK
        go_wp2_with (first | (at_builtin; refine wd_append (s := Lib.itoa nk) rfl HK5 HLl.out rfl rfl rfl rfl (by simp) ?_; intro u9 W9 HI9) | fail)
        go_roundw
        case rel => exact ⟨k + 1, by omega, by go_num, hid (by rw [HTt.out]; simpa using HI9.out)⟩
        case measure => simp [intOf]; omega
      · have HT : Hid ([nam] ++ (c.nums.take k).map (numT c.op) = [nam] ++ c.nums.map (numT c.op)) := hid (by rw [List.take_of_length_le (by omega)])
        rw [HT.out] at HK
        clear HT HNum HInt
        have hT : textC c = (nam ++ flat32 ([] ++ (c.nums.map (numT c.op) ++ ([] ++ [])))) ++ [10] := hparts.out
        have hb9 : (nam ++ flat32 ([] ++ (c.nums.map (numT c.op) ++ ([] ++ [])))).length ≤ 200000 := by have := HLn.out; rw [hT, List.length_append] at this; omega
        obtain ⟨Js, hJs⟩ : ∃ Js : ByteArray, (⟨(nam ++ flat32 ([] ++ (c.nums.map (numT c.op) ++ ([] ++ [])))).toArray⟩ : ByteArray) = Js := ⟨_, rfl⟩
        have hJz : Js.size ≤ 200000 := by rw [← hJs, size_l]; exact hb9
        have HJn := hid (wd_join HK.out (by simp) hb9 hJs)
        have HTx := hid hT
        have HJs := hid hJs
        have HBl := hid HK.out.bel
        clear hT hb9 hJs
        go_wp2_with fail
        refine HJn.out.mono ?_
        rintro e w6 ⟨rfl, b6⟩
        have HB6 := hid (HBl.out.trans (b6.mono HBl.out.size))
        clear HJn b6
        go_wp2
        go_ret
        exact ⟨by rw [← HJs.out]; exact ret_cat HTx.out.symm, HB6.out⟩
  · injection hw with e1 hw; injection hw with e2 hw; injection hw with e3 e4; subst e1 e2 e3 e4
    obtain ⟨x1, x2, x3, x4, x5, y0, y1, y2, y3, y4, ysz⟩ := I0.out.cells
    go_wp2_with (first | (at_builtin; (first | refine wd_append (s := c.name) rfl (by assumption) (by simp <;> omega) rfl rfl rfl rfl (by simp) ?_ | refine wd_append (s := rowTextL c.row) rfl (by assumption) (by simp <;> omega) rfl rfl rfl rfl (by simp) ?_ | refine wd_append (s := c.query) rfl (by assumption) (by simp <;> omega) rfl rfl rfl rfl (by simp) ?_); intro u9 W9 HI9; obtain ⟨x1, x2, x3, x4, x5, y0, y1, y2, y3, y4, ysz⟩ := HI9.out.cells) | fail)
    have HJ := hid I0.out
    go_loopw [24, 4] (fun i u wr => ∃ (k : Nat), k ≤ c.nums.length ∧ i = .int .i64 k ∧ Hid (WdI n c (.slice Tn c.nums.length ct) (.slice R c.row.length cr) ⟨false, false, nums, false, true⟩ A cf gs w wr ([nam] ++ (c.nums.take k).map (numT c.op)) u)) (fun i _ _ => c.nums.length - (intOf i).toNat)
    case atStart => exact ⟨0, by omega, rfl, hid (by simpa using HJ.out)⟩
    case round =>
      obtain ⟨k, hk, rfl, HK⟩ := hrel
      clear HJ x1 x2 x3 x4 x5 y0 y1 y2 y3 y4 ysz I0
      obtain ⟨x1, x2, x3, x4, x5, y0, y1, y2, y3, y4, ysz⟩ := HK.out.cells
      by_cases hlt : k < c.nums.length
      · have hin := (HCm.out.below HK.out.bel).ints
        obtain ⟨b, o, rfl, hci⟩ := hin (by omega)
        have d0 := hci k hlt
        obtain ⟨hn1, hn2, hn3⟩ := HNum.out k hlt
        have HT : Hid ([nam] ++ (c.nums.take (k + 1)).map (numT c.op) = [nam] ++ (c.nums.take k).map (numT c.op) ++ [numT c.op c.nums[k]]) := hid (by
          rw [List.take_succ_eq_append_getElem hlt, List.map_append]
          simp)
        have hll : ([nam] ++ (c.nums.take k).map (numT c.op)).length ≤ 200000 := by simp <;> omega
        have HLl := hid hll
        generalize c.nums[k] = nk at *
        clear hci hll hin
        have HF := hid (HInt.out nk wr hn2 (HE.out.env.env.tab.below HK.out.bel))
        have e1 := hn1 (by simp)
        rw [e1] at HT
        have HTt := hid HT.out
        clear hn1 hn3 hn2 HNum HRow HInt HT e1
        go_wp2_with fail
        refine HF.out.mono ?_
        rintro e w5 ⟨rfl, b5⟩
        have HK5 := hid (HK.out.on b5)
        obtain ⟨x1, x2, x3, x4, x5, y0, y1, y2, y3, y4, ysz⟩ := HK5.out.cells
        clear HF b5 HK
        go_wp2_with (first | (at_builtin; refine wd_append (s := Lib.itoa nk) rfl HK5 HLl.out rfl rfl rfl rfl (by simp) ?_; intro u9 W9 HI9) | fail)
        go_roundw
        case rel => exact ⟨k + 1, by omega, by go_num, hid (by rw [HTt.out]; simpa using HI9.out)⟩
        case measure => simp [intOf]; omega
      · have HT : Hid ([nam] ++ (c.nums.take k).map (numT c.op) = [nam] ++ c.nums.map (numT c.op)) := hid (by rw [List.take_of_length_le (by omega)])
        rw [HT.out] at HK
        clear HT HNum HInt
        go_wp2_with (first | (at_builtin; (first | refine wd_append (s := c.name) rfl (by assumption) (by simp <;> omega) rfl rfl rfl rfl (by simp) ?_ | refine wd_append (s := rowTextL c.row) rfl (by assumption) (by simp <;> omega) rfl rfl rfl rfl (by simp) ?_ | refine wd_append (s := c.query) rfl (by assumption) (by simp <;> omega) rfl rfl rfl rfl (by simp) ?_); intro u9 W9 HI9; obtain ⟨x1, x2, x3, x4, x5, y0, y1, y2, y3, y4, ysz⟩ := HI9.out.cells) | fail)
        have hT : textC c = (nam ++ flat32 ([] ++ (c.nums.map (numT c.op) ++ ([] ++ [c.query])))) ++ [10] := hparts.out
        have hb9 : (nam ++ flat32 ([] ++ (c.nums.map (numT c.op) ++ ([] ++ [c.query])))).length ≤ 200000 := by have := HLn.out; rw [hT, List.length_append] at this; omega
        obtain ⟨Js, hJs⟩ : ∃ Js : ByteArray, (⟨(nam ++ flat32 ([] ++ (c.nums.map (numT c.op) ++ ([] ++ [c.query])))).toArray⟩ : ByteArray) = Js := ⟨_, rfl⟩
        have hJz : Js.size ≤ 200000 := by rw [← hJs, size_l]; exact hb9
        have HJn := hid (wd_join HI9.out (by simp) hb9 hJs)
        have HTx := hid hT
        have HJs := hid hJs
        have HBl := hid HI9.out.bel
        clear hT hb9 hJs
        refine HJn.out.mono ?_
        rintro e w6 ⟨rfl, b6⟩
        have HB6 := hid (HBl.out.trans (b6.mono HBl.out.size))
        clear HJn b6
        go_wp2
        go_ret
        exact ⟨by rw [← HJs.out]; exact ret_cat HTx.out.symm, HB6.out⟩
  · injection hw with e1 hw; injection hw with e2 hw; injection hw with e3 e4; subst e1 e2 e3 e4
    obtain ⟨x1, x2, x3, x4, x5, y0, y1, y2, y3, y4, ysz⟩ := I0.out.cells
    go_wp2_with (first | (at_builtin; (first | refine wd_append (s := c.name) rfl (by assumption) (by simp <;> omega) rfl rfl rfl rfl (by simp) ?_ | refine wd_append (s := rowTextL c.row) rfl (by assumption) (by simp <;> omega) rfl rfl rfl rfl (by simp) ?_ | refine wd_append (s := c.query) rfl (by assumption) (by simp <;> omega) rfl rfl rfl rfl (by simp) ?_); intro u9 W9 HI9; obtain ⟨x1, x2, x3, x4, x5, y0, y1, y2, y3, y4, ysz⟩ := HI9.out.cells) | fail)
    have HJ := hid I0.out
    go_loopw [24, 4] (fun i u wr => ∃ (k : Nat), k ≤ c.nums.length ∧ i = .int .i64 k ∧ Hid (WdI n c (.slice Tn c.nums.length ct) (.slice R c.row.length cr) ⟨false, false, nums, true, false⟩ A cf gs w wr ([nam] ++ (c.nums.take k).map (numT c.op)) u)) (fun i _ _ => c.nums.length - (intOf i).toNat)
    case atStart => exact ⟨0, by omega, rfl, hid (by simpa using HJ.out)⟩
    case round =>
      obtain ⟨k, hk, rfl, HK⟩ := hrel
      clear HJ x1 x2 x3 x4 x5 y0 y1 y2 y3 y4 ysz I0
      obtain ⟨x1, x2, x3, x4, x5, y0, y1, y2, y3, y4, ysz⟩ := HK.out.cells
      by_cases hlt : k < c.nums.length
      · have hin := (HCm.out.below HK.out.bel).ints
        obtain ⟨b, o, rfl, hci⟩ := hin (by omega)
        have d0 := hci k hlt
        obtain ⟨hn1, hn2, hn3⟩ := HNum.out k hlt
        have HT : Hid ([nam] ++ (c.nums.take (k + 1)).map (numT c.op) = [nam] ++ (c.nums.take k).map (numT c.op) ++ [numT c.op c.nums[k]]) := hid (by
          rw [List.take_succ_eq_append_getElem hlt, List.map_append]
          simp)
        have hll : ([nam] ++ (c.nums.take k).map (numT c.op)).length ≤ 200000 := by simp <;> omega
        have HLl := hid hll
        generalize c.nums[k] = nk at *
        clear hci hll hin
        have HF := hid (HInt.out nk wr hn2 (HE.out.env.env.tab.below HK.out.bel))
        have e1 := hn1 (by simp)
        rw [e1] at HT
        have HTt := hid HT.out
        clear hn1 hn3 hn2 HNum HRow HInt HT e1
        go_wp2_with fail
        refine HF.out.mono ?_
        rintro e w5 ⟨rfl, b5⟩
        have HK5 := hid (HK.out.on b5)
        obtain ⟨x1, x2, x3, x4, x5, y0, y1, y2, y3, y4, ysz⟩ := HK5.out.cells
        clear HF b5 HK
        go_wp2_with (first | (at_builtin; refine wd_append (s := Lib.itoa nk) rfl HK5 HLl.out rfl rfl rfl rfl (by simp) ?_; intro u9 W9 HI9) | fail)
        go_roundw
        case rel => exact ⟨k + 1, by omega, by go_num, hid (by rw [HTt.out]; simpa using HI9.out)⟩
        case measure => simp [intOf]; omega
      · have HT : Hid ([nam] ++ (c.nums.take k).map (numT c.op) = [nam] ++ c.nums.map (numT c.op)) := hid (by rw [List.take_of_length_le (by omega)])
        rw [HT.out] at HK
        clear HT HNum HInt
        have HF := hid (HRow.out (by simp) wr (HCm.out.below HK.out.bel).row (HE.out.env.env.tab.below HK.out.bel))
        clear HRow
        go_wp2_with fail
        refine HF.out.mono ?_
        rintro e w5 ⟨rfl, b5⟩
        have HK5 := hid (HK.out.on b5)
        obtain ⟨x1, x2, x3, x4, x5, y0, y1, y2, y3, y4, ysz⟩ := HK5.out.cells
        clear HF b5 HK
        go_wp2_with (first | (at_builtin; (first | refine wd_append (s := c.name) rfl (by assumption) (by simp <;> omega) rfl rfl rfl rfl (by simp) ?_ | refine wd_append (s := rowTextL c.row) rfl (by assumption) (by simp <;> omega) rfl rfl rfl rfl (by simp) ?_ | refine wd_append (s := c.query) rfl (by assumption) (by simp <;> omega) rfl rfl rfl rfl (by simp) ?_); intro u9 W9 HI9; obtain ⟨x1, x2, x3, x4, x5, y0, y1, y2, y3, y4, ysz⟩ := HI9.out.cells) | fail)
        have hT : textC c = (nam ++ flat32 ([] ++ (c.nums.map (numT c.op) ++ ([rowTextL c.row] ++ [])))) ++ [10] := hparts.out
        have hb9 : (nam ++ flat32 ([] ++ (c.nums.map (numT c.op) ++ ([rowTextL c.row] ++ [])))).length ≤ 200000 := by have := HLn.out; rw [hT, List.length_append] at this; omega
        obtain ⟨Js, hJs⟩ : ∃ Js : ByteArray, (⟨(nam ++ flat32 ([] ++ (c.nums.map (numT c.op) ++ ([rowTextL c.row] ++ [])))).toArray⟩ : ByteArray) = Js := ⟨_, rfl⟩
        have hJz : Js.size ≤ 200000 := by rw [← hJs, size_l]; exact hb9
        have HJn := hid (wd_join HI9.out (by simp) hb9 hJs)
        have HTx := hid hT
        have HJs := hid hJs
        have HBl := hid HI9.out.bel
        clear hT hb9 hJs
        refine HJn.out.mono ?_
        rintro e w6 ⟨rfl, b6⟩
        have HB6 := hid (HBl.out.trans (b6.mono HBl.out.size))
        clear HJn b6
        go_wp2
        go_ret
        exact ⟨by rw [← HJs.out]; exact ret_cat HTx.out.symm, HB6.out⟩
  · injection hw with e1 hw; injection hw with e2 hw; injection hw with e3 e4; subst e1 e2 e3 e4
    obtain ⟨x1, x2, x3, x4, x5, y0, y1, y2, y3, y4, ysz⟩ := I0.out.cells
    go_wp2_with (first | (at_builtin; (first | refine wd_append (s := c.name) rfl (by assumption) (by simp <;> omega) rfl rfl rfl rfl (by simp) ?_ | refine wd_append (s := rowTextL c.row) rfl (by assumption) (by simp <;> omega) rfl rfl rfl rfl (by simp) ?_ | refine wd_append (s := c.query) rfl (by assumption) (by simp <;> omega) rfl rfl rfl rfl (by simp) ?_); intro u9 W9 HI9; obtain ⟨x1, x2, x3, x4, x5, y0, y1, y2, y3, y4, ysz⟩ := HI9.out.cells) | fail)
    have HJ := hid I0.out
    go_loopw [24, 4] (fun i u wr => ∃ (k : Nat), k ≤ c.nums.length ∧ i = .int .i64 k ∧ Hid (WdI n c (.slice Tn c.nums.length ct) (.slice R c.row.length cr) ⟨false, false, nums, true, true⟩ A cf gs w wr ([nam] ++ (c.nums.take k).map (numT c.op)) u)) (fun i _ _ => c.nums.length - (intOf i).toNat)
    case atStart => exact ⟨0, by omega, rfl, hid (by simpa using HJ.out)⟩
    case round =>
      obtain ⟨k, hk, rfl, HK⟩ := hrel
      clear HJ x1 x2 x3 x4 x5 y0 y1 y2 y3 y4 ysz I0
      obtain ⟨x1, x2, x3, x4, x5, y0, y1, y2, y3, y4, ysz⟩ := HK.out.cells
      by_cases hlt : k < c.nums.length
      · have hin := (HCm.out.below HK.out.bel).ints
        obtain ⟨b, o, rfl, hci⟩ := hin (by omega)
        have d0 := hci k hlt
        obtain ⟨hn1, hn2, hn3⟩ := HNum.out k hlt
        have HT : Hid ([nam] ++ (c.nums.take (k + 1)).map (numT c.op) = [nam] ++ (c.nums.take k).map (numT c.op) ++ [numT c.op c.nums[k]]) := hid (by
          rw [List.take_succ_eq_append_getElem hlt, List.map_append]
          simp)
        have hll : ([nam] ++ (c.nums.take k).map (numT c.op)).length ≤ 200000 := by simp <;> omega
        have HLl := hid hll
        generalize c.nums[k] = nk at *
        clear hci hll hin
        have HF := hid (HInt.out nk wr hn2 (HE.out.env.env.tab.below HK.out.bel))
        have e1 := hn1 (by simp)
        rw [e1] at HT
        have HTt := hid HT.out
        clear hn1 hn3 hn2 HNum HRow HInt HT e1
        go_wp2_with fail
        refine HF.out.mono ?_
        rintro e w5 ⟨rfl, b5⟩
        have HK5 := hid (HK.out.on b5)
        obtain ⟨x1, x2, x3, x4, x5, y0, y1, y2, y3, y4, ysz⟩ := HK5.out.cells
        clear HF b5 HK
        go_wp2_with (first | (at_builtin; refine wd_append (s := Lib.itoa nk) rfl HK5 HLl.out rfl rfl rfl rfl (by simp) ?_; intro u9 W9 HI9) | fail)
        go_roundw
        case rel => exact ⟨k + 1, by omega, by go_num, hid (by rw [HTt.out]; simpa using HI9.out)⟩
        case measure => simp [intOf]; omega
      · have HT : Hid ([nam] ++ (c.nums.take k).map (numT c.op) = [nam] ++ c.nums.map (numT c.op)) := hid (by rw [List.take_of_length_le (by omega)])
        rw [HT.out] at HK
        clear HT HNum HInt
        have HF := hid (HRow.out (by simp) wr (HCm.out.below HK.out.bel).row (HE.out.env.env.tab.below HK.out.bel))
        clear HRow
        go_wp2_with fail
        refine HF.out.mono ?_
        rintro e w5 ⟨rfl, b5⟩
        have HK5 := hid (HK.out.on b5)
        obtain ⟨x1, x2, x3, x4, x5, y0, y1, y2, y3, y4, ysz⟩ := HK5.out.cells
        clear HF b5 HK
        go_wp2_with (first | (at_builtin; (first | refine wd_append (s := c.name) rfl (by assumption) (by simp <;> omega) rfl rfl rfl rfl (by simp) ?_ | refine wd_append (s := rowTextL c.row) rfl (by assumption) (by simp <;> omega) rfl rfl rfl rfl (by simp) ?_ | refine wd_append (s := c.query) rfl (by assumption) (by simp <;> omega) rfl rfl rfl rfl (by simp) ?_); intro u9 W9 HI9; obtain ⟨x1, x2, x3, x4, x5, y0, y1, y2, y3, y4, ysz⟩ := HI9.out.cells) | fail)
        have hT : textC c = (nam ++ flat32 ([] ++ (c.nums.map (numT c.op) ++ ([rowTextL c.row] ++ [c.query])))) ++ [10] := hparts.out
        have hb9 : (nam ++ flat32 ([] ++ (c.nums.map (numT c.op) ++ ([rowTextL c.row] ++ [c.query])))).length ≤ 200000 := by have := HLn.out; rw [hT, List.length_append] at this; omega
        obtain ⟨Js, hJs⟩ : ∃ Js : ByteArray, (⟨(nam ++ flat32 ([] ++ (c.nums.map (numT c.op) ++ ([rowTextL c.row] ++ [c.query])))).toArray⟩ : ByteArray) = Js := ⟨_, rfl⟩
        have hJz : Js.size ≤ 200000 := by rw [← hJs, size_l]; exact hb9
        have HJn := hid (wd_join HI9.out (by simp) hb9 hJs)
        have HTx := hid hT
        have HJs := hid hJs
        have HBl := hid HI9.out.bel
        clear hT hb9 hJs
        refine HJn.out.mono ?_
        rintro e w6 ⟨rfl, b6⟩
        have HB6 := hid (HBl.out.trans (b6.mono HBl.out.size))
        clear HJn b6
        go_wp2
        go_ret
        exact ⟨by rw [← HJs.out]; exact ret_cat HTx.out.symm, HB6.out⟩
end
end Go.Proofs.YtjhnopnppimnhaaGreatDoor
