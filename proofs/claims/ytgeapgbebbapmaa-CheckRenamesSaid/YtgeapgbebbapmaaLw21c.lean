/-
  WALKS: the law's Great, Bad: some answer.
-/
import Derived.Test.YtgeapgbebbapmaaChk6
import Derived.Deep.QuietTactic
namespace Go.Proofs.Ytgeapgbebbapmaa
open Go.RowKit

def SomeB (e : Ending) : Prop := ∃ b : Bool, e = .returned (.bool b)
set_option maxRecDepth 100000 in
set_option maxHeartbeats 8000000 in
theorem law_great (q : Qry) (A R O : Option Addr) (ch cr co : Nat) (w : World) (hq : QryIn w q A R O ch cr co) :
    Calls Try.prog 10 #[qryV q A R O ch cr co] w fun e w' => SomeB e ∧ Below w.heap.size w w' := by
  obtain ⟨hHd, hRl, hOr, lh, lr, lo, mh, mr, mo⟩ := hq
  have HH := hid hHd
  have HR := hid hRl
  have HO := hid hOr
  obtain ⟨Y, hY, _, _⟩ := nm q.aggVar
  unfold qryV
  rw [hY]
  clear hHd hRl hOr hY
  obtain ⟨hd, ga, av, rs, os⟩ := q
  simp only at *
  have HB0 : Hid (Below (w.heap.size + 1) (w.alloc (.cells #[.slice A hd.length ch, .int .i64 ga, .string Y, .slice R rs.length cr, .slice O os.length co] 26)) (w.alloc (.cells #[.slice A hd.length ch, .int .i64 ga, .string Y, .slice R rs.length cr, .slice O os.length co] 26))) := hid (Below.refl _ _)
  obtain ⟨x4, hx4⟩ : ∃ b : Bool, (decide ((Y.size : Int) > 100)) = b := ⟨_, rfl⟩
  go_enter Try.func10, Try.ntmps10
  go_wp2
  go_loopw [31, 4] (fun i v4 wr => ∃ (j : Nat) (b : Bool), j ≤ hd.length ∧ i = .int .i64 j ∧ v4 = .bool b ∧ Hid (Below (w.heap.size + 1) (w.alloc (.cells #[.slice A hd.length ch, .int .i64 ga, .string Y, .slice R rs.length cr, .slice O os.length co] 26)) wr)) (fun i _ _ => hd.length - (intOf i).toNat)
  case atStart => exact ⟨0, _, by omega, rfl, rfl, HB0⟩
  case round =>
    obtain ⟨j, b, hj, rfl, rfl, HB⟩ := hrel
    clear HB0
    obtain ⟨q0, q1, q2, q3, q4, qlt, hbel⟩ := qry_cells HB.out
    have hsz := hbel.size
    by_cases hlt : j < hd.length
    · obtain ⟨bb, o, rfl, hc⟩ := HH.out (by omega)
      have d0 := cell_keep hbel (hc j hlt)
      obtain ⟨Z, hZ, _, _⟩ := nm hd[j]
      rw [hZ] at d0
      clear hc hZ
      cases b with
        | true =>
          go_wp2
          go_roundw
          case rel => exact ⟨j + 1, _, by omega, by go_num, rfl, HB⟩
          case measure => simp [intOf]; omega
        | false =>
          go_wp2
          go_roundw
          case rel => exact ⟨j + 1, _, by omega, by go_num, rfl, HB⟩
          case measure => simp [intOf]; omega
    · go_wp2
      clear q0 q1 q2 q3 q4 qlt hbel hsz hx4
      go_loopw [45, 4] (fun i v4 wr => ∃ (j : Nat) (b : Bool), j ≤ os.length ∧ i = .int .i64 j ∧ v4 = .bool b ∧ Hid (Below (w.heap.size + 1) (w.alloc (.cells #[.slice A hd.length ch, .int .i64 ga, .string Y, .slice R rs.length cr, .slice O os.length co] 26)) wr)) (fun i _ _ => os.length - (intOf i).toNat)
      case atStart => exact ⟨0, _, by omega, rfl, rfl, HB⟩
      case round =>
        obtain ⟨j2, b2, hj2, rfl, rfl, HB2⟩ := hrel
        clear HB
        obtain ⟨q0, q1, q2, q3, q4, qlt, hbel⟩ := qry_cells HB2.out
        have hsz := hbel.size
        have hsz2 := HB2.out.size
        by_cases hlt2 : j2 < os.length
        · obtain ⟨bb, o, rfl, hc⟩ := HO.out (by omega)
          obtain ⟨d0, d1⟩ := hc j2 hlt2
          replace d0 := cell_keep hbel d0
          replace d1 := cell_keep hbel d1
          obtain ⟨Z, hZ, _, _⟩ := nm os[j2].v
          rw [hZ] at d0
          obtain ⟨de, hde⟩ : ∃ b, os[j2].desc = b := ⟨_, rfl⟩
          rw [hde] at d1
          have HB3 := hid (HB2.out.trans ((below_one wr (.cells #[.string Z, .bool de] 75)).mono (by omega)))
          clear hc hZ hde
          cases b2 with
            | true =>
              go_wp2
              go_roundw
              case rel => exact ⟨j2 + 1, _, by omega, by go_num, rfl, HB3⟩
              case measure => simp [intOf]; omega
            | false =>
              go_wp2
              go_roundw
              case rel => exact ⟨j2 + 1, _, by omega, by go_num, rfl, HB3⟩
              case measure => simp [intOf]; omega
        · go_wp2
          clear q0 q1 q2 q3 q4 qlt hbel hsz hsz2
          go_loopw [60, 3, 4] (fun i v3 v4 wr => ∃ (j : Nat) (n : Int) (b : Bool), j ≤ rs.length ∧ i = .int .i64 j ∧ v3 = .int .i64 n ∧ v4 = .bool b ∧ Hid (Below (w.heap.size + 1) (w.alloc (.cells #[.slice A hd.length ch, .int .i64 ga, .string Y, .slice R rs.length cr, .slice O os.length co] 26)) wr)) (fun i _ _ _ => rs.length - (intOf i).toNat)
          case atStart => exact ⟨0, _, _, by omega, rfl, rfl, rfl, HB2⟩
          case round =>
            obtain ⟨j3, n3, b3, hj3, rfl, rfl, rfl, HB3⟩ := hrel
            clear HB2
            obtain ⟨q0, q1, q2, q3, q4, qlt, hbel⟩ := qry_cells HB3.out
            have hsz := hbel.size
            have hsz3 := HB3.out.size
            by_cases hlt3 : j3 < rs.length
            · obtain ⟨bb, o, rfl, hc⟩ := HR.out (by omega)
              obtain ⟨T, ct, T2, ct2, d0, d1, ha, hcn, _, _, ma, mc⟩ := hc j3 hlt3
              replace d0 := cell_keep hbel d0
              replace d1 := cell_keep hbel d1
              obtain ⟨ru, er⟩ : ∃ r, rs[j3] = r := ⟨_, rfl⟩
              rw [er] at d0 d1 ha hcn ma mc
              have HA := hid ha
              have HC := hid (hcn.below hbel)
              have HB4 : Hid (Below (wr.heap.size + 1) (wr.alloc (.cells #[.slice T ru.atoms.length ct, .slice T2 ru.conds.length ct2] 46)) (wr.alloc (.cells #[.slice T ru.atoms.length ct, .slice T2 ru.conds.length ct2] 46))) := hid (Below.refl _ _)
              have HUp := hid (HB3.out.trans ((below_one wr (.cells #[.slice T ru.atoms.length ct, .slice T2 ru.conds.length ct2] 46)).mono (by omega)))
              clear hc er ha hcn
              go_wp2
              clear q0 q1 q2 q3 q4 qlt d0 d1
              go_loopw [72, 4] (fun i v4 wx => ∃ (j : Nat) (b : Bool), j ≤ ru.conds.length ∧ i = .int .i64 j ∧ v4 = .bool b ∧ Hid (Below (wr.heap.size + 1) (wr.alloc (.cells #[.slice T ru.atoms.length ct, .slice T2 ru.conds.length ct2] 46)) wx)) (fun i _ _ => ru.conds.length - (intOf i).toNat)
              case atStart => exact ⟨0, _, by omega, rfl, rfl, HB4⟩
              case round =>
                obtain ⟨j4, b4, hj4, rfl, rfl, HB5⟩ := hrel
                clear HB4
                obtain ⟨r0, r1, rlt, rbel⟩ := rul_cells HB5.out
                have rsz := rbel.size
                have rsz1 := HB5.out.size
                by_cases hlt4 : j4 < ru.conds.length
                · obtain ⟨b6, o6, rfl, hc⟩ := HC.out (by omega)
                  obtain ⟨d0, d1, d2, d3, d4⟩ := hc j4 hlt4
                  replace d0 := cell_keep rbel d0
                  replace d1 := cell_keep rbel d1
                  replace d2 := cell_keep rbel d2
                  replace d3 := cell_keep rbel d3
                  replace d4 := cell_keep rbel d4
                  obtain ⟨Z, hZ, _, _⟩ := nm ru.conds[j4].v
                  rw [hZ] at d0
                  obtain ⟨⟨z1, z2, ⟨z3, z4, z5⟩⟩, hz⟩ : ∃ z, ru.conds[j4] = z := ⟨_, rfl⟩
                  rw [hz] at d1 d2 d3 d4
                  simp only at d1 d2 d3 d4
                  have HB6 := hid (HB5.out.trans ((below_one wr (.cells #[.string Z, .int .i64 z2, .int .i64 z3, .int .i64 z4, .string z5] 79)).mono (by omega)))
                  clear hc hZ hz
                  cases b4 with
                    | true =>
                      go_wp2
                      go_roundw
                      case rel => exact ⟨j4 + 1, _, by omega, by go_num, rfl, HB6⟩
                      case measure => simp [intOf]; omega
                    | false =>
                      by_cases h100 : (Z.size : Int) > 100
                      · have b100 : decide ((Z.size : Int) > 100) = true := decide_eq_true h100
                        go_wp2
                        go_roundw
                        case rel => exact ⟨j4 + 1, _, by omega, by go_num, rfl, HB6⟩
                        case measure => simp [intOf]; omega
                      · have b100 : decide ((Z.size : Int) > 100) = false := decide_eq_false h100
                        go_wp2
                        go_roundw
                        case rel => exact ⟨j4 + 1, _, by omega, by go_num, rfl, HB6⟩
                        case measure => simp [intOf]; omega
                · go_wp2
                  have HUq := hid (HUp.out.trans (HB5.out.mono (by omega)))
                  clear r0 r1 rlt rbel rsz rsz1 HB5 HUp
                  go_loopw [94, 3, 4] (fun i v3 v4 wx => ∃ (j : Nat) (n : Int) (b : Bool), j ≤ ru.atoms.length ∧ i = .int .i64 j ∧ v3 = .int .i64 n ∧ v4 = .bool b ∧ Hid (Below (w.heap.size + 1) (w.alloc (.cells #[.slice A hd.length ch, .int .i64 ga, .string Y, .slice (some ⟨bb, o, none⟩) rs.length cr, .slice O os.length co] 26)) wx)) (fun i _ _ _ => ru.atoms.length - (intOf i).toNat)
                  case atStart => exact ⟨0, _, _, by omega, rfl, rfl, rfl, HUq⟩
                  case round =>
                    obtain ⟨j5, n5, b5, hj5, rfl, rfl, rfl, HB6⟩ := hrel
                    clear HUq
                    obtain ⟨q0, q1, q2, q3, q4, qlt, hbel6⟩ := qry_cells HB6.out
                    have hsz6 := HB6.out.size
                    by_cases hlt5 : j5 < ru.atoms.length
                    · obtain ⟨b6, o6, rfl, hc⟩ := HA.out (by omega)
                      obtain ⟨T5, c5, d0, d1, d2, ht, _, mt⟩ := hc j5 hlt5
                      replace d0 := cell_keep hbel6 d0
                      replace d1 := cell_keep hbel6 d1
                      replace d2 := cell_keep hbel6 d2
                      obtain ⟨Z, hZ, _, _⟩ := nm ru.atoms[j5].rel
                      rw [hZ] at d1
                      obtain ⟨tl, etl⟩ : ∃ t, ru.atoms[j5].ts = t := ⟨_, rfl⟩
                      obtain ⟨ng, eng⟩ : ∃ t, ru.atoms[j5].neg = t := ⟨_, rfl⟩
                      rw [etl] at d2 ht mt
                      rw [eng] at d0
                      have HT := hid ht
                      have HB7 := hid (HB6.out.trans ((below_one wr (.cells #[.bool ng, .string Z, .slice T5 tl.length c5] 51)).mono (by omega)))
                      clear hc hZ etl eng ht
                      obtain ⟨x100, h100⟩ : ∃ b : Bool, (decide ((Z.size : Int) > 100)) = b := ⟨_, rfl⟩
                      have hk5 : ∃ b5' : Bool, (b5 = true → b5' = true) ∧ (b5 = false → b5' = x100) := by cases b5 <;> simp
                      cases b5 with
                      | true =>
                        go_wp2
                        clear q0 q1 q2 q3 q4 qlt hsz6 d0 d1 d2 HB6 hk5
                        go_loopw [114, 4] (fun i v4 wx => ∃ (j : Nat) (b : Bool), j ≤ tl.length ∧ i = .int .i64 j ∧ v4 = .bool b ∧ Hid (Below (w.heap.size + 1) (w.alloc (.cells #[.slice A hd.length ch, .int .i64 ga, .string Y, .slice (some ⟨bb, o, none⟩) rs.length cr, .slice O os.length co] 26)) wx)) (fun i _ _ => tl.length - (intOf i).toNat)
                        case atStart => exact ⟨0, _, by omega, rfl, rfl, HB7⟩
                        case round =>
                          obtain ⟨j6, b7, hj6, rfl, rfl, HB8⟩ := hrel
                          clear HB7
                          obtain ⟨q0, q1, q2, q3, q4, qlt, hbel8⟩ := qry_cells HB8.out
                          have hsz8 := HB8.out.size
                          by_cases hlt6 : j6 < tl.length
                          · obtain ⟨b8, o8, rfl, hc⟩ := HT.out (by omega)
                            obtain ⟨d0, d1, d2, d3⟩ := hc j6 hlt6
                            replace d0 := cell_keep hbel8 d0
                            replace d1 := cell_keep hbel8 d1
                            replace d2 := cell_keep hbel8 d2
                            replace d3 := cell_keep hbel8 d3
                            obtain ⟨Z, hZ, _, _⟩ := nm tl[j6].v
                            rw [hZ] at d0
                            obtain ⟨⟨z1, ⟨z3, z4, z5⟩⟩, hz⟩ : ∃ z, tl[j6] = z := ⟨_, rfl⟩
                            rw [hz] at d1 d2 d3
                            simp only at d1 d2 d3
                            have HB9 := hid (HB8.out.trans ((below_one wr (.cells #[.string Z, .int .i64 z3, .int .i64 z4, .string z5] 81)).mono (by omega)))
                            clear hc hZ hz
                            cases b7 with
                              | true =>
                                go_wp2
                                go_roundw
                                case rel => exact ⟨j6 + 1, _, by omega, by go_num, rfl, HB9⟩
                                case measure => simp [intOf]; omega
                              | false =>
                                by_cases h100 : (Z.size : Int) > 100
                                · have b100 : decide ((Z.size : Int) > 100) = true := decide_eq_true h100
                                  go_wp2
                                  go_roundw
                                  case rel => exact ⟨j6 + 1, _, by omega, by go_num, rfl, HB9⟩
                                  case measure => simp [intOf]; omega
                                · have b100 : decide ((Z.size : Int) > 100) = false := decide_eq_false h100
                                  go_wp2
                                  go_roundw
                                  case rel => exact ⟨j6 + 1, _, by omega, by go_num, rfl, HB9⟩
                                  case measure => simp [intOf]; omega
                          · go_wp2
                            go_roundw
                            case rel => exact ⟨j5 + 1, _, _, by omega, by go_num, rfl, rfl, HB8⟩
                            case measure => simp [intOf]; omega
                      | false =>
                        go_wp2
                        clear q0 q1 q2 q3 q4 qlt hsz6 d0 d1 d2 HB6 hk5
                        go_loopw [114, 4] (fun i v4 wx => ∃ (j : Nat) (b : Bool), j ≤ tl.length ∧ i = .int .i64 j ∧ v4 = .bool b ∧ Hid (Below (w.heap.size + 1) (w.alloc (.cells #[.slice A hd.length ch, .int .i64 ga, .string Y, .slice (some ⟨bb, o, none⟩) rs.length cr, .slice O os.length co] 26)) wx)) (fun i _ _ => tl.length - (intOf i).toNat)
                        case atStart => exact ⟨0, _, by omega, rfl, rfl, HB7⟩
                        case round =>
                          obtain ⟨j6, b7, hj6, rfl, rfl, HB8⟩ := hrel
                          clear HB7
                          obtain ⟨q0, q1, q2, q3, q4, qlt, hbel8⟩ := qry_cells HB8.out
                          have hsz8 := HB8.out.size
                          by_cases hlt6 : j6 < tl.length
                          · obtain ⟨b8, o8, rfl, hc⟩ := HT.out (by omega)
                            obtain ⟨d0, d1, d2, d3⟩ := hc j6 hlt6
                            replace d0 := cell_keep hbel8 d0
                            replace d1 := cell_keep hbel8 d1
                            replace d2 := cell_keep hbel8 d2
                            replace d3 := cell_keep hbel8 d3
                            obtain ⟨Z, hZ, _, _⟩ := nm tl[j6].v
                            rw [hZ] at d0
                            obtain ⟨⟨z1, ⟨z3, z4, z5⟩⟩, hz⟩ : ∃ z, tl[j6] = z := ⟨_, rfl⟩
                            rw [hz] at d1 d2 d3
                            simp only at d1 d2 d3
                            have HB9 := hid (HB8.out.trans ((below_one wr (.cells #[.string Z, .int .i64 z3, .int .i64 z4, .string z5] 81)).mono (by omega)))
                            clear hc hZ hz
                            cases b7 with
                              | true =>
                                go_wp2
                                go_roundw
                                case rel => exact ⟨j6 + 1, _, by omega, by go_num, rfl, HB9⟩
                                case measure => simp [intOf]; omega
                              | false =>
                                by_cases h100 : (Z.size : Int) > 100
                                · have b100 : decide ((Z.size : Int) > 100) = true := decide_eq_true h100
                                  go_wp2
                                  go_roundw
                                  case rel => exact ⟨j6 + 1, _, by omega, by go_num, rfl, HB9⟩
                                  case measure => simp [intOf]; omega
                                · have b100 : decide ((Z.size : Int) > 100) = false := decide_eq_false h100
                                  go_wp2
                                  go_roundw
                                  case rel => exact ⟨j6 + 1, _, by omega, by go_num, rfl, HB9⟩
                                  case measure => simp [intOf]; omega
                          · go_wp2
                            go_roundw
                            case rel => exact ⟨j5 + 1, _, _, by omega, by go_num, rfl, rfl, HB8⟩
                            case measure => simp [intOf]; omega
                    · go_wp2
                      go_roundw
                      case rel => exact ⟨j3 + 1, _, _, by omega, by go_num, rfl, rfl, HB6⟩
                      case measure => simp [intOf]; omega
            · cases b3 with
              | true =>
                go_wp2
                go_ret
                exact ⟨⟨_, rfl⟩, hbel⟩
              | false =>
                by_cases h200 : n3 > 200
                · have b200 : decide (n3 > 200) = true := decide_eq_true h200
                  go_wp2
                  go_ret
                  exact ⟨⟨_, rfl⟩, hbel⟩
                · have b200 : decide (n3 > 200) = false := decide_eq_false h200
                  go_wp2
                  go_ret
                  exact ⟨⟨_, rfl⟩, hbel⟩
end Go.Proofs.Ytgeapgbebbapmaa
