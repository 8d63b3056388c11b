/-
  WALK: the law AstRenames.
-/
import Derived.Test.YtgeapgbebbapmaaDoorAw19
import Derived.Test.YtgeapgbebbapmaaDoorRn3
import Derived.Test.YtgeapgbebbapmaaDoorSm4
import Derived.Test.YtgeapgbebbapmaaDoorReg2
import Derived.Test.YtgeapgbebbapmaaDoorRenK
import Derived.Test.YtgeapgbebbapmaaDoorRen3
namespace Go.Proofs.YtgeapgbebbapmaaDoor
open Go.RowKit

theorem nil_query (w : World) : QryIn w ⟨[], 0, [], [], []⟩ none none none 0 0 0 :=
  ⟨fun h => absurd h (by simp), fun h => absurd h (by simp), fun h => absurd h (by simp), by simp, by simp, by simp, by simp, by simp, by simp⟩

set_option maxRecDepth 100000 in
set_option maxHeartbeats 16000000 in
theorem law_renames19 (q : Qry) (fr tos : List Str) (A R O Fa Ta : Option Addr) (ch cr co fc tc : Nat) (w : World) (hq : QryIn w q A R O ch cr co) (hwf : q.wf) (hf : NmsAt w Fa fr) (ht : NmsAt w Ta tos) (hfc : fr.length ≤ fc)
    (hfl : ∀ s ∈ fr, s.length ≤ 9223372036854775807) (htl : ∀ s ∈ tos, s.length ≤ 9223372036854775807) (hfm : fr.length ≤ 9223372036854775807) (htm : tos.length ≤ 9223372036854775807) (htab : Tab w) :
    Calls Tryd.prog 6 #[qryV q A R O ch cr co, .slice Fa fr.length fc, .slice Ta tos.length tc] w fun e w' => e = .returned (.bool true) ∧ Below w.heap.size w w' := by
  obtain ⟨y, ey⟩ : ∃ y, renE q fr tos = y := ⟨_, rfl⟩
  have CG := fun W h => hid (law_great19 q A R O ch cr co W h)
  have CA := fun W (b : Below w.heap.size w W) => hid (law_awake19 W (htab.below b))
  have C1 := fun W h (h1 : NmsAt W Fa fr) (h2 : NmsAt W Ta tos) l1 l2 => hid (ast_rename q fr tos A R O Fa Ta ch cr co fc tc W h hwf h1 h2 hfl htl l1 l2 ey)
  have C2 := fun W h (h1 : NmsAt W Fa fr) (h2 : NmsAt W Ta tos) l1 l2 => hid (ref_rename19 q fr tos A R O Fa Ta ch cr co fc tc W h hwf h1 h2 hfc l1 l2 ey)
  have HF := hid hf
  have HT := hid ht
  have HQ := hid hq
  have HY := hid ey
  have HWF := hid hwf
  obtain ⟨Y, hY⟩ : ∃ Y : ByteArray, (⟨q.aggVar.toArray⟩ : ByteArray) = Y := ⟨_, rfl⟩
  have hqv : qryV q A R O ch cr co = .agg #[.slice A q.head.length ch, .int .i64 q.agg, .string Y, .slice R q.rules.length cr, .slice O q.order.length co] := by unfold qryV; rw [hY]
  have HQV := hid hqv
  simp only [hqv] at CG C1 C2 ⊢
  have HB0 : Hid (Below (w.heap.size + 1) (w.alloc (.cells #[.slice A q.head.length ch, .int .i64 q.agg, .string Y, .slice R q.rules.length cr, .slice O q.order.length co] 26)) (w.alloc (.cells #[.slice A q.head.length ch, .int .i64 q.agg, .string Y, .slice R q.rules.length cr, .slice O q.order.length co] 26))) := hid (Below.refl _ _)
  obtain ⟨_, _, _, _, _, qlt, hbel⟩ := qry_cells HB0.out
  clear hY hqv hq ey htab hwf hf ht hfl htl
  go_enter Tryd.func6, Tryd.ntmps6
  go_wp2_with fail
  refine (CG _ (HQ.out.below hbel)).out.mono ?_
  rintro e w1 ⟨bg, rfl, b1⟩
  have HB1 := hid (HB0.out.trans (b1.mono (by simp)))
  clear CG b1 HB0 hbel qlt
  obtain ⟨q0, q1, q2, q3, q4, qlt, hbel⟩ := qry_cells HB1.out
  cases bg
  · by_cases l1 : 12 < fr.length
    · clear C1 C2 q0 q1 q2 q3 q4
      go_wp2_with fail
      refine (CA _ hbel).out.mono ?_
      rintro e w2 ⟨rfl, b2⟩
      have hb := hbel.trans (b2.mono hbel.size)
      clear CA b2
      go_wp2
      go_ret
      exact ⟨rfl, hb⟩
    · by_cases l2 : 12 < tos.length
      · clear C1 C2 q0 q1 q2 q3 q4
        go_wp2_with fail
        refine (CA _ hbel).out.mono ?_
        rintro e w2 ⟨rfl, b2⟩
        have hb := hbel.trans (b2.mono hbel.size)
        clear CA b2
        go_wp2
        go_ret
        exact ⟨rfl, hb⟩
      · go_wp2
        clear q0 q1 q2 q3 q4 qlt hbel
        go_loopw [7] (fun i wr => ∃ k : Nat, k ≤ fr.length ∧ i = .int .i64 k ∧ Hid (Below (w.heap.size + 1) (w.alloc (.cells #[.slice A q.head.length ch, .int .i64 q.agg, .string Y, .slice R q.rules.length cr, .slice O q.order.length co] 26)) wr)) (fun i _ => fr.length - (intOf i).toNat)
        case atStart => exact ⟨0, by omega, rfl, HB1⟩
        case round =>
          clear HB1
          obtain ⟨k, hk, rfl, HB⟩ := hrel
          obtain ⟨q0, q1, q2, q3, q4, qlt, hbel⟩ := qry_cells HB.out
          by_cases hlt : k < fr.length
          · obtain ⟨b, o, rfl, hc⟩ := HF.out (by omega)
            have d0 := cell_keep hbel (hc k hlt)
            obtain ⟨Z, hZ⟩ : ∃ Y : ByteArray, (⟨fr[k].toArray⟩ : ByteArray) = Y := ⟨_, rfl⟩
            rw [hZ] at d0
            clear hc hZ q0 q1 q2 q3 q4
            by_cases hz : 100 < Z.size
            · clear C1 C2
              go_wp2_with fail
              refine (CA _ hbel).out.mono ?_
              rintro e w2 ⟨rfl, b2⟩
              have hb := hbel.trans (b2.mono hbel.size)
              clear CA b2
              go_wp2
              go_ret
              exact ⟨rfl, hb⟩
            · go_wp2
              go_roundw
              case rel => exact ⟨k + 1, by omega, by go_num, HB⟩
              case measure => simp [intOf]; omega
          · go_wp2
            clear q0 q1 q2 q3 q4 qlt hbel
            go_loopw [8] (fun i wr => ∃ k : Nat, k ≤ tos.length ∧ i = .int .i64 k ∧ Hid (Below (w.heap.size + 1) (w.alloc (.cells #[.slice A q.head.length ch, .int .i64 q.agg, .string Y, .slice R q.rules.length cr, .slice O q.order.length co] 26)) wr)) (fun i _ => tos.length - (intOf i).toNat)
            case atStart => exact ⟨0, by omega, rfl, HB⟩
            case round =>
              clear HB
              obtain ⟨k2, hk2, rfl, HB⟩ := hrel
              obtain ⟨q0, q1, q2, q3, q4, qlt, hbel⟩ := qry_cells HB.out
              by_cases hlt2 : k2 < tos.length
              · obtain ⟨b, o, rfl, hc⟩ := HT.out (by omega)
                have d0 := cell_keep hbel (hc k2 hlt2)
                obtain ⟨Z, hZ⟩ : ∃ Y : ByteArray, (⟨tos[k2].toArray⟩ : ByteArray) = Y := ⟨_, rfl⟩
                rw [hZ] at d0
                clear hc hZ q0 q1 q2 q3 q4
                by_cases hz : 100 < Z.size
                · clear C1 C2
                  go_wp2_with fail
                  refine (CA _ hbel).out.mono ?_
                  rintro e w2 ⟨rfl, b2⟩
                  have hb := hbel.trans (b2.mono hbel.size)
                  clear CA b2
                  go_wp2
                  go_ret
                  exact ⟨rfl, hb⟩
                · go_wp2
                  go_roundw
                  case rel => exact ⟨k2 + 1, by omega, by go_num, HB⟩
                  case measure => simp [intOf]; omega
              · go_wp2_with fail
                refine (C1 _ (HQ.out.below hbel) (HF.out.below hbel) (HT.out.below hbel) (by omega) (by omega)).out.mono ?_
                rintro e w2 ⟨v, rfl, hv, b2⟩
                have HB2 := hid (HB.out.trans (b2.mono (by have := HB.out.size; simp at this; omega)))
                clear C1 b2 q0 q1 q2 q3 q4 qlt hbel HB
                obtain ⟨q0, q1, q2, q3, q4, qlt, hbel⟩ := qry_cells HB2.out
                rcases hv with ⟨hy, rfl⟩ | ⟨hy, A2, R2, O2, c1, c2, c3, rfl, hq2⟩
                · have C5 : ∀ W, Hid (Calls Tryd.prog 18 #[.agg #[.slice none 0 0, .int .i64 0, .string ⟨#[]⟩, .slice none 0 0, .slice none 0 0], .agg #[.slice none 0 0, .int .i64 0, .string ⟨#[]⟩, .slice none 0 0, .slice none 0 0]] W fun e w' => e = .returned (.bool true) ∧ Below W.heap.size W w') := fun W => hid (ref_same ⟨[], 0, [], [], []⟩ none none none none none none 0 0 0 0 0 0 W (nil_query W) (nil_query W))
                  have hb3 := hbel.trans ((below_one w2 (.cells #[.slice none 0 0, .int .i64 0, .string ⟨#[]⟩, .slice none 0 0, .slice none 0 0] 26)).mono hbel.size)
                  have hn := heap_alloc_new w2 (.cells #[.slice none 0 0, .int .i64 0, .string ⟨#[]⟩, .slice none 0 0, .slice none 0 0] 26)
                  have hs2 : w2.heap.size < (w2.alloc (.cells #[.slice none 0 0, .int .i64 0, .string ⟨#[]⟩, .slice none 0 0, .slice none 0 0] 26)).heap.size := by simp
                  have HN := hid hn
                  have HS2 := hid hs2
                  have by0 : (y != y) = false := by simp
                  have by1 : (y != 0) = true := by simpa using hy
                  clear hn hs2
                  go_wp2_with fail
                  refine (C2 _ (HQ.out.below hb3) (HF.out.below hb3) (HT.out.below hb3) (by omega) (by omega)).out.mono ?_
                  rintro e w3 ⟨rfl, b3⟩
                  have hp := res_keep' HN.out b3 HS2.out
                  obtain ⟨p0, p1, p2, p3, p4, plt⟩ := rbox hp
                  have pl := lt_of_block hp
                  have hb4 := hb3.trans (b3.mono hb3.size)
                  clear C2 b3 HN HS2 hp q0 q1 q2 q3 q4 qlt
                  go_wp2_with fail
                  refine (C5 _).out.mono ?_
                  rintro e w4 ⟨rfl, b4⟩
                  have hb5 := hb4.trans (b4.mono hb4.size)
                  clear C5 b4 p0 p1 p2 p3 p4 plt pl
                  go_wp2_with fail
                  refine (CA _ hb5).out.mono ?_
                  rintro e w5 ⟨rfl, b5⟩
                  have hb6 := hb5.trans (b5.mono hb5.size)
                  clear CA b5
                  go_wp2
                  go_ret
                  exact ⟨rfl, hb6⟩
                · subst hy
                  obtain ⟨hc0, hl, _, _, _⟩ := renE_zero HY.out
                  have CR := fun W (h : QryIn W q A R O ch cr co) (b : Below w.heap.size w W) => hid (ref_renamed (renF (zipF fr tos)) Fa Ta fr.length fc tos.length tc q A R O ch cr co W h HWF.out (check_some hc0) (fun W2 Z b2 _ => hid ((ref_rname fr tos Fa Ta fc tc Z W2 (HF.out.below (b.trans (b2.mono b.size))) (HT.out.below (b.trans (b2.mono b.size))) hl hfm rfl).mono (fun e w3 h => by obtain ⟨rfl, rfl⟩ := h; exact ⟨rfl, Below.refl _ _⟩))))
                  simp only [HQV.out] at CR
                  generalize mapQ (renF (zipF fr tos)) q = P at *
                  obtain ⟨Y2, hY2⟩ : ∃ Y : ByteArray, (⟨P.aggVar.toArray⟩ : ByteArray) = Y := ⟨_, rfl⟩
                  have hpv : qryV P A2 R2 O2 c1 c2 c3 = .agg #[.slice A2 P.head.length c1, .int .i64 P.agg, .string Y2, .slice R2 P.rules.length c2, .slice O2 P.order.length c3] := by unfold qryV; rw [hY2]
                  have HQ2 : Hid (∀ w5, Below w2.heap.size w2 w5 → QryIn w5 P A2 R2 O2 c1 c2 c3) := hid fun w5 b => hq2 w5 (fun b' _ hb' => b.block b' hb')
                  have C4 := fun W A3 R3 O3 d1 d2 d3 (b : Below w2.heap.size w2 W) (h : QryIn W P A3 R3 O3 d1 d2 d3) => hid (ref_same P A2 R2 O2 A3 R3 O3 c1 c2 c3 d1 d2 d3 W (HQ2.out W b) h)
                  simp only [hpv] at C4 ⊢
                  have hb2 := below_one w2 (.cells #[.slice A2 P.head.length c1, .int .i64 P.agg, .string Y2, .slice R2 P.rules.length c2, .slice O2 P.order.length c3] 26)
                  have hb3 := hbel.trans (hb2.mono hbel.size)
                  have hn := heap_alloc_new w2 (.cells #[.slice A2 P.head.length c1, .int .i64 P.agg, .string Y2, .slice R2 P.rules.length c2, .slice O2 P.order.length c3] 26)
                  have hs2 : w2.heap.size < (w2.alloc (.cells #[.slice A2 P.head.length c1, .int .i64 P.agg, .string Y2, .slice R2 P.rules.length c2, .slice O2 P.order.length c3] 26)).heap.size := by simp
                  have HN := hid hn
                  have HS2 := hid hs2
                  have HB20 := hid hb2
                  clear hn hs2 hb2 hq2 hpv hY2 hc0 hl
                  go_wp2_with fail
                  refine (C2 _ (HQ.out.below hb3) (HF.out.below hb3) (HT.out.below hb3) (by omega) (by omega)).out.mono ?_
                  rintro e w3 ⟨rfl, b3⟩
                  have hp := res_keep' HN.out b3 HS2.out
                  have HB23 := hid (HB20.out.trans (b3.mono HB20.out.size))
                  have HB3 := hid (HB2.out.trans (HB23.out.mono (by have := HB2.out.size; simp at this; omega)))
                  clear C2 b3 HN HS2 q0 q1 q2 q3 q4 qlt hbel hb3 HB20 HB2
                  have HP := hid hp
                  obtain ⟨q0, q1, q2, q3, q4, qlt, hbel⟩ := qry_cells HB3.out
                  obtain ⟨p0, p1, p2, p3, p4, plt⟩ := rbox hp
                  have pl := lt_of_block hp
                  clear hp
                  go_upto_region 19 with fail
                  refine wp_region_inv3 (fun d ac w9 => ∃ x73 x74 x75 x76 x77 x78 x79 x80 x81 x6 : Value, ac = { tmps := List.toArray ((Value.agg #[Value.slice A q.head.length ch, Value.int IntKind.i64 q.agg, Value.string Y, Value.slice R q.rules.length cr, Value.slice O q.order.length co]) :: (Value.slice Fa fr.length fc) :: (Value.slice Ta tos.length tc) :: (Value.pointer (some { block := w.heap.size, off := 0 })) :: undef :: undef :: x6 :: (Value.int IntKind.i64 ↑k) :: (Value.int IntKind.i64 ↑k2) :: (Value.pointer (some { block := w2.heap.size, off := 0 })) :: (Value.int IntKind.i64 0) :: (Value.int IntKind.i64 0) :: (Value.agg #[Value.slice A q.head.length ch, Value.int IntKind.i64 q.agg, Value.string Y, Value.slice R q.rules.length cr, Value.slice O q.order.length co]) :: (Value.bool false) :: (Value.bool false) :: (Value.slice Fa fr.length fc) :: (Value.int IntKind.i64 ↑fr.length) :: (Value.bool (decide ((12 : Int) < (fr.length : Int)))) :: (Value.bool (decide ((12 : Int) < (fr.length : Int)))) :: (Value.bool (decide ((12 : Int) < (fr.length : Int)))) :: (Value.slice Ta tos.length tc) :: (Value.int IntKind.i64 ↑tos.length) :: (Value.bool (decide ((12 : Int) < (tos.length : Int)))) :: (Value.bool (decide ((12 : Int) < (fr.length : Int)) || decide ((12 : Int) < (tos.length : Int)))) :: undef :: (Value.int IntKind.i64 ↑k) :: (Value.slice Fa fr.length fc) :: (Value.int IntKind.i64 ↑fr.length) :: (Value.bool false) :: u29 :: u30 :: u31 :: u32 :: u33 :: u34 :: u35 :: u36 :: u37 :: (Value.int IntKind.i64 ↑k2) :: (Value.slice Ta tos.length tc) :: (Value.int IntKind.i64 ↑tos.length) :: (Value.bool false) :: u42 :: u43 :: u44 :: u45 :: u46 :: u47 :: u48 :: u49 :: u50 :: (Value.tuple #[Value.agg #[Value.slice A2 P.head.length c1, Value.int IntKind.i64 P.agg, Value.string Y2, Value.slice R2 P.rules.length c2, Value.slice O2 P.order.length c3], Value.int IntKind.i64 0]) :: (Value.agg #[Value.slice A q.head.length ch, Value.int IntKind.i64 q.agg, Value.string Y, Value.slice R q.rules.length cr, Value.slice O q.order.length co]) :: (Value.slice Fa fr.length fc) :: (Value.slice Ta tos.length tc) :: (Value.tuple #[Value.agg #[Value.slice A2 P.head.length c1, Value.int IntKind.i64 P.agg, Value.string Y2, Value.slice R2 P.rules.length c2, Value.slice O2 P.order.length c3], Value.int IntKind.i64 0]) :: (Value.agg #[Value.slice A2 P.head.length c1, Value.int IntKind.i64 P.agg, Value.string Y2, Value.slice R2 P.rules.length c2, Value.slice O2 P.order.length c3]) :: (Value.int IntKind.i64 0) :: (Value.agg #[Value.slice A q.head.length ch, Value.int IntKind.i64 q.agg, Value.string Y, Value.slice R q.rules.length cr, Value.slice O q.order.length co]) :: (Value.slice Fa fr.length fc) :: (Value.slice Ta tos.length tc) :: (Value.int IntKind.i64 0) :: (Value.int IntKind.i64 0) :: (Value.int IntKind.i64 0) :: (Value.bool false) :: (Value.int IntKind.i64 0) :: (Value.bool false) :: undef :: undef :: undef :: undef :: undef :: undef :: x73 :: x74 :: x75 :: x76 :: x77 :: x78 :: x79 :: x80 :: x81 :: []), defers := [] } ∧ Hid (Below w3.heap.size w3 w9) ∧ Hid (d 0 = true → x73 = .agg #[.slice A2 P.head.length c1, .int .i64 P.agg, .string Y2, .slice R2 P.rules.length c2, .slice O2 P.order.length c3]) ∧ Hid (d 1 = true → x74 = .agg #[.slice A q.head.length ch, .int .i64 q.agg, .string Y, .slice R q.rules.length cr, .slice O q.order.length co]) ∧ Hid (d 2 = true → x75 = .slice Fa fr.length fc) ∧ Hid (d 3 = true → x76 = .slice Ta tos.length tc) ∧ Hid (d 4 = true → ∃ A3 R3 O3 d1 d2 d3, x77 = qryV P A3 R3 O3 d1 d2 d3 ∧ QryIn w9 P A3 R3 O3 d1 d2 d3) ∧ Hid (d 5 = true → x78 = .bool true) ∧ Hid (d 6 = true → x79 = .bool true) ∧ Hid (d 7 = true → x80 = .bool true) ∧ Hid (d 8 = true → x81 = .bool true) ∧ Hid (d 9 = true → x6 = .bool true)) (by kernel_rfl) (by kernel_rfl) ?h0 ?hst ?fin
                  case h0 => exact ⟨_, _, _, _, _, _, _, _, _, _, rfl, hid (Below.drew (Below.refl _ _)), hid (fun h => absurd h (by decide)), hid (fun h => absurd h (by decide)), hid (fun h => absurd h (by decide)), hid (fun h => absurd h (by decide)), hid (fun h => absurd h (by decide)), hid (fun h => absurd h (by decide)), hid (fun h => absurd h (by decide)), hid (fun h => absurd h (by decide)), hid (fun h => absurd h (by decide)), hid (fun h => absurd h (by decide))⟩
                  case hst =>
                    refine ⟨?_, ?_, ?_, ?_, ?_, ?_, ?_, ?_, ?_, ?_, trivial⟩
                    · rintro d ac w9 ⟨x73, x74, x75, x76, x77, x78, x79, x80, x81, x6, rfl, HB9, f0, f1, f2, f3, f4, f5, f6, f7, f8, f9⟩ hcl hdk haft
                      have p0 := cell_keep HB9.out p0
                      have p1 := cell_keep HB9.out p1
                      have p2 := cell_keep HB9.out p2
                      have p3 := cell_keep HB9.out p3
                      have p4 := cell_keep HB9.out p4
                      have pl := Nat.lt_of_lt_of_le pl HB9.out.size
                      clear  hdk haft hcl
                      go_wp2
                      exact rthenK_n ⟨_, _, _, _, _, _, _, _, _, _, rfl, hid (HB9.out.trans ((Below.refl w9.heap.size w9).mono HB9.out.size)), rnf rfl, rkf rfl f1 (fun h => by first | exact h | exact rfl), rkf rfl f2 (fun h => by first | exact h | exact rfl), rkf rfl f3 (fun h => by first | exact h | exact rfl), rkf rfl f4 (fun h => by first | (obtain ⟨a1, a2, a3, a4, a5, a6, e1, e2⟩ := h; exact ⟨a1, a2, a3, a4, a5, a6, e1, e2.below (((Below.refl w9.heap.size w9)).mono (Nat.le_refl _))⟩) | exact ⟨_, _, _, _, _, _, rfl, HQ3.out.below (Below.refl w9.heap.size w9)⟩), rkf rfl f5 (fun h => by first | exact h | exact rfl), rkf rfl f6 (fun h => by first | exact h | exact rfl), rkf rfl f7 (fun h => by first | exact h | exact rfl), rkf rfl f8 (fun h => by first | exact h | exact rfl), rkf rfl f9 (fun h => by first | exact h | exact rfl)⟩
                    · rintro d ac w9 ⟨x73, x74, x75, x76, x77, x78, x79, x80, x81, x6, rfl, HB9, f0, f1, f2, f3, f4, f5, f6, f7, f8, f9⟩ hcl hdk haft
                      have q0 := cell_keep HB9.out q0
                      have q1 := cell_keep HB9.out q1
                      have q2 := cell_keep HB9.out q2
                      have q3 := cell_keep HB9.out q3
                      have q4 := cell_keep HB9.out q4
                      have qlt := Nat.lt_of_lt_of_le qlt HB9.out.size
                      clear  hdk haft hcl
                      go_wp2
                      exact rthenK_n ⟨_, _, _, _, _, _, _, _, _, _, rfl, hid (HB9.out.trans ((Below.refl w9.heap.size w9).mono HB9.out.size)), rkf rfl f0 (fun h => by first | exact h | exact rfl), rnf rfl, rkf rfl f2 (fun h => by first | exact h | exact rfl), rkf rfl f3 (fun h => by first | exact h | exact rfl), rkf rfl f4 (fun h => by first | (obtain ⟨a1, a2, a3, a4, a5, a6, e1, e2⟩ := h; exact ⟨a1, a2, a3, a4, a5, a6, e1, e2.below (((Below.refl w9.heap.size w9)).mono (Nat.le_refl _))⟩) | exact ⟨_, _, _, _, _, _, rfl, HQ3.out.below (Below.refl w9.heap.size w9)⟩), rkf rfl f5 (fun h => by first | exact h | exact rfl), rkf rfl f6 (fun h => by first | exact h | exact rfl), rkf rfl f7 (fun h => by first | exact h | exact rfl), rkf rfl f8 (fun h => by first | exact h | exact rfl), rkf rfl f9 (fun h => by first | exact h | exact rfl)⟩
                    · rintro d ac w9 ⟨x73, x74, x75, x76, x77, x78, x79, x80, x81, x6, rfl, HB9, f0, f1, f2, f3, f4, f5, f6, f7, f8, f9⟩ hcl hdk haft
                      clear  hdk haft hcl
                      go_wp2
                      exact rthenK_n ⟨_, _, _, _, _, _, _, _, _, _, rfl, hid (HB9.out.trans ((Below.refl w9.heap.size w9).mono HB9.out.size)), rkf rfl f0 (fun h => by first | exact h | exact rfl), rkf rfl f1 (fun h => by first | exact h | exact rfl), rnf rfl, rkf rfl f3 (fun h => by first | exact h | exact rfl), rkf rfl f4 (fun h => by first | (obtain ⟨a1, a2, a3, a4, a5, a6, e1, e2⟩ := h; exact ⟨a1, a2, a3, a4, a5, a6, e1, e2.below (((Below.refl w9.heap.size w9)).mono (Nat.le_refl _))⟩) | exact ⟨_, _, _, _, _, _, rfl, HQ3.out.below (Below.refl w9.heap.size w9)⟩), rkf rfl f5 (fun h => by first | exact h | exact rfl), rkf rfl f6 (fun h => by first | exact h | exact rfl), rkf rfl f7 (fun h => by first | exact h | exact rfl), rkf rfl f8 (fun h => by first | exact h | exact rfl), rkf rfl f9 (fun h => by first | exact h | exact rfl)⟩
                    · rintro d ac w9 ⟨x73, x74, x75, x76, x77, x78, x79, x80, x81, x6, rfl, HB9, f0, f1, f2, f3, f4, f5, f6, f7, f8, f9⟩ hcl hdk haft
                      clear  hdk haft hcl
                      go_wp2
                      exact rthenK_n ⟨_, _, _, _, _, _, _, _, _, _, rfl, hid (HB9.out.trans ((Below.refl w9.heap.size w9).mono HB9.out.size)), rkf rfl f0 (fun h => by first | exact h | exact rfl), rkf rfl f1 (fun h => by first | exact h | exact rfl), rkf rfl f2 (fun h => by first | exact h | exact rfl), rnf rfl, rkf rfl f4 (fun h => by first | (obtain ⟨a1, a2, a3, a4, a5, a6, e1, e2⟩ := h; exact ⟨a1, a2, a3, a4, a5, a6, e1, e2.below (((Below.refl w9.heap.size w9)).mono (Nat.le_refl _))⟩) | exact ⟨_, _, _, _, _, _, rfl, HQ3.out.below (Below.refl w9.heap.size w9)⟩), rkf rfl f5 (fun h => by first | exact h | exact rfl), rkf rfl f6 (fun h => by first | exact h | exact rfl), rkf rfl f7 (fun h => by first | exact h | exact rfl), rkf rfl f8 (fun h => by first | exact h | exact rfl), rkf rfl f9 (fun h => by first | exact h | exact rfl)⟩
                    · rintro d ac w9 ⟨x73, x74, x75, x76, x77, x78, x79, x80, x81, x6, rfl, HB9, f0, f1, f2, f3, f4, f5, f6, f7, f8, f9⟩ hcl hdk haft
                      have h1 := haft ⟨1, .data⟩ (by simp) rfl
                      have h2 := haft ⟨2, .data⟩ (by simp) rfl
                      have h3 := haft ⟨3, .data⟩ (by simp) rfl
                      obtain rfl := f1.out h1
                      obtain rfl := f2.out h2
                      obtain rfl := f3.out h3
                      have hb9 := hbel.trans (HB9.out.mono hbel.size)
                      clear h1 h2 h3 hdk haft hcl
                      go_wp2_with fail
                      refine (CR _ (HQ.out.below hb9) hb9).out.mono ?_
                      rintro e w8 ⟨A3, R3, O3, d1, d2, d3, rfl, hq3, b8⟩
                      have HQ3 := hid (hq3 w8 (fun _ _ _ => rfl))
                      clear hq3
                      go_wp2
                      exact rthenK_n ⟨_, _, _, _, _, _, _, _, _, _, rfl, hid (HB9.out.trans (b8.mono HB9.out.size)), rkf rfl f0 (fun h => by first | exact h | exact rfl), rkf rfl f1 (fun h => by first | exact h | exact rfl), rkf rfl f2 (fun h => by first | exact h | exact rfl), rkf rfl f3 (fun h => by first | exact h | exact rfl), rnf ⟨_, _, _, _, _, _, rfl, HQ3.out⟩, rkf rfl f5 (fun h => by first | exact h | exact rfl), rkf rfl f6 (fun h => by first | exact h | exact rfl), rkf rfl f7 (fun h => by first | exact h | exact rfl), rkf rfl f8 (fun h => by first | exact h | exact rfl), rkf rfl f9 (fun h => by first | exact h | exact rfl)⟩
                    · rintro d ac w9 ⟨x73, x74, x75, x76, x77, x78, x79, x80, x81, x6, rfl, HB9, f0, f1, f2, f3, f4, f5, f6, f7, f8, f9⟩ hcl hdk haft
                      have h0 := haft ⟨0, .data⟩ (by simp) rfl
                      have h4 := haft ⟨4, .data⟩ (by simp) rfl
                      obtain rfl := f0.out h0
                      obtain ⟨A3, R3, O3, d1, d2, d3, rfl, hq3⟩ := f4.out h4
                      have HQ3 := hid hq3
                      clear hq3
                      have hb9 := hbel.trans (HB9.out.mono hbel.size)
                      clear h0 h4 hdk haft hcl
                      have C6 := C4 w9 A3 R3 O3 d1 d2 d3 (HB23.out.trans (HB9.out.mono HB23.out.size)) HQ3.out
                      go_wp2_with fail
                      refine C6.out.mono ?_
                      rintro e w8 ⟨rfl, b8⟩
                      clear C6
                      go_wp2
                      exact rthenK_n ⟨_, _, _, _, _, _, _, _, _, _, rfl, hid (HB9.out.trans (b8.mono HB9.out.size)), rkf rfl f0 (fun h => by first | exact h | exact rfl), rkf rfl f1 (fun h => by first | exact h | exact rfl), rkf rfl f2 (fun h => by first | exact h | exact rfl), rkf rfl f3 (fun h => by first | exact h | exact rfl), rkf rfl f4 (fun h => by first | (obtain ⟨a1, a2, a3, a4, a5, a6, e1, e2⟩ := h; exact ⟨a1, a2, a3, a4, a5, a6, e1, e2.below ((b8).mono (Nat.le_refl _))⟩) | exact ⟨_, _, _, _, _, _, rfl, HQ3.out.below b8⟩), rnf rfl, rkf rfl f6 (fun h => by first | exact h | exact rfl), rkf rfl f7 (fun h => by first | exact h | exact rfl), rkf rfl f8 (fun h => by first | exact h | exact rfl), rkf rfl f9 (fun h => by first | exact h | exact rfl)⟩
                    · rintro d ac w9 ⟨x73, x74, x75, x76, x77, x78, x79, x80, x81, x6, rfl, HB9, f0, f1, f2, f3, f4, f5, f6, f7, f8, f9⟩ hcl hdk haft
                      have h5 := haft ⟨5, .data⟩ (by simp) rfl
                      obtain rfl := f5.out h5
                      clear h5 hdk haft hcl
                      go_wp2
                      exact rthenK_n ⟨_, _, _, _, _, _, _, _, _, _, rfl, hid (HB9.out.trans ((Below.refl w9.heap.size w9).mono HB9.out.size)), rkf rfl f0 (fun h => by first | exact h | exact rfl), rkf rfl f1 (fun h => by first | exact h | exact rfl), rkf rfl f2 (fun h => by first | exact h | exact rfl), rkf rfl f3 (fun h => by first | exact h | exact rfl), rkf rfl f4 (fun h => by first | (obtain ⟨a1, a2, a3, a4, a5, a6, e1, e2⟩ := h; exact ⟨a1, a2, a3, a4, a5, a6, e1, e2.below (((Below.refl w9.heap.size w9)).mono (Nat.le_refl _))⟩) | exact ⟨_, _, _, _, _, _, rfl, HQ3.out.below (Below.refl w9.heap.size w9)⟩), rkf rfl f5 (fun h => by first | exact h | exact rfl), rnf rfl, rkf rfl f7 (fun h => by first | exact h | exact rfl), rkf rfl f8 (fun h => by first | exact h | exact rfl), rkf rfl f9 (fun h => by first | exact h | exact rfl)⟩
                    · rintro d ac w9 ⟨x73, x74, x75, x76, x77, x78, x79, x80, x81, x6, rfl, HB9, f0, f1, f2, f3, f4, f5, f6, f7, f8, f9⟩ hcl hdk haft
                      have h6 := haft ⟨6, .chain⟩ (by simp) rfl
                      obtain rfl := f6.out h6
                      have hb9 := hbel.trans (HB9.out.mono hbel.size)
                      clear h6 hdk haft hcl
                      go_wp2_with fail
                      refine (CA _ hb9).out.mono ?_
                      rintro e w8 ⟨rfl, b8⟩
                      go_wp2
                      exact rthenK_n ⟨_, _, _, _, _, _, _, _, _, _, rfl, hid (HB9.out.trans (b8.mono HB9.out.size)), rkf rfl f0 (fun h => by first | exact h | exact rfl), rkf rfl f1 (fun h => by first | exact h | exact rfl), rkf rfl f2 (fun h => by first | exact h | exact rfl), rkf rfl f3 (fun h => by first | exact h | exact rfl), rkf rfl f4 (fun h => by first | (obtain ⟨a1, a2, a3, a4, a5, a6, e1, e2⟩ := h; exact ⟨a1, a2, a3, a4, a5, a6, e1, e2.below ((b8).mono (Nat.le_refl _))⟩) | exact ⟨_, _, _, _, _, _, rfl, HQ3.out.below b8⟩), rkf rfl f5 (fun h => by first | exact h | exact rfl), rkf rfl f6 (fun h => by first | exact h | exact rfl), rnf rfl, rkf rfl f8 (fun h => by first | exact h | exact rfl), rkf rfl f9 (fun h => by first | exact h | exact rfl)⟩
                    · rintro d ac w9 ⟨x73, x74, x75, x76, x77, x78, x79, x80, x81, x6, rfl, HB9, f0, f1, f2, f3, f4, f5, f6, f7, f8, f9⟩ hcl hdk haft
                      have h6 := haft ⟨6, .data⟩ (by simp) rfl
                      have h7 := haft ⟨7, .data⟩ (by simp) rfl
                      obtain rfl := f6.out h6
                      obtain rfl := f7.out h7
                      clear h6 h7 hdk haft hcl
                      go_wp2
                      exact rthenK_n ⟨_, _, _, _, _, _, _, _, _, _, rfl, hid (HB9.out.trans ((Below.refl w9.heap.size w9).mono HB9.out.size)), rkf rfl f0 (fun h => by first | exact h | exact rfl), rkf rfl f1 (fun h => by first | exact h | exact rfl), rkf rfl f2 (fun h => by first | exact h | exact rfl), rkf rfl f3 (fun h => by first | exact h | exact rfl), rkf rfl f4 (fun h => by first | (obtain ⟨a1, a2, a3, a4, a5, a6, e1, e2⟩ := h; exact ⟨a1, a2, a3, a4, a5, a6, e1, e2.below (((Below.refl w9.heap.size w9)).mono (Nat.le_refl _))⟩) | exact ⟨_, _, _, _, _, _, rfl, HQ3.out.below (Below.refl w9.heap.size w9)⟩), rkf rfl f5 (fun h => by first | exact h | exact rfl), rkf rfl f6 (fun h => by first | exact h | exact rfl), rkf rfl f7 (fun h => by first | exact h | exact rfl), rnf rfl, rkf rfl f9 (fun h => by first | exact h | exact rfl)⟩
                    · rintro d ac w9 ⟨x73, x74, x75, x76, x77, x78, x79, x80, x81, x6, rfl, HB9, f0, f1, f2, f3, f4, f5, f6, f7, f8, f9⟩ hcl hdk haft
                      have h8 := haft ⟨8, .data⟩ (by simp) rfl
                      obtain rfl := f8.out h8
                      clear h8 hdk haft hcl
                      go_wp2
                      exact rthenK_n ⟨_, _, _, _, _, _, _, _, _, _, rfl, hid (HB9.out.trans ((Below.refl w9.heap.size w9).mono HB9.out.size)), rkf rfl f0 (fun h => by first | exact h | exact rfl), rkf rfl f1 (fun h => by first | exact h | exact rfl), rkf rfl f2 (fun h => by first | exact h | exact rfl), rkf rfl f3 (fun h => by first | exact h | exact rfl), rkf rfl f4 (fun h => by first | (obtain ⟨a1, a2, a3, a4, a5, a6, e1, e2⟩ := h; exact ⟨a1, a2, a3, a4, a5, a6, e1, e2.below (((Below.refl w9.heap.size w9)).mono (Nat.le_refl _))⟩) | exact ⟨_, _, _, _, _, _, rfl, HQ3.out.below (Below.refl w9.heap.size w9)⟩), rkf rfl f5 (fun h => by first | exact h | exact rfl), rkf rfl f6 (fun h => by first | exact h | exact rfl), rkf rfl f7 (fun h => by first | exact h | exact rfl), rkf rfl f8 (fun h => by first | exact h | exact rfl), rnf rfl⟩
                  case fin =>
                    rintro d ac w9 ⟨x73, x74, x75, x76, x77, x78, x79, x80, x81, x6, rfl, HB9, f0, f1, f2, f3, f4, f5, f6, f7, f8, f9⟩ hall
                    obtain rfl := f9.out (hall 9)
                    have hb9 := hbel.trans (HB9.out.mono hbel.size)
                    clear hall
                    go_wp2
                    go_ret
                    exact ⟨rfl, hb9⟩
  · clear C1 C2 q0 q1 q2 q3 q4
    go_wp2_with fail
    refine (CA _ hbel).out.mono ?_
    rintro e w2 ⟨rfl, b2⟩
    have hb := hbel.trans (b2.mono hbel.size)
    clear CA b2
    go_wp2
    go_ret
    exact ⟨rfl, hb⟩
end Go.Proofs.YtgeapgbebbapmaaDoor
