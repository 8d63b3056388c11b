/-
  WALK: the law CheckGuarded, over what awake answers.
-/
import Derived.Test.YtgeapgbebbapmaaChk7
import Derived.Test.YtgeapgbebbapmaaLw21c
import Derived.Test.YtgeapgbebbapmaaLw21d
import Derived.Test.YtgeapgbebbapmaaLwG
import Derived.Deep.QuietTactic
namespace Go.Proofs.Ytgeapgbebbapmaa
open Go.RowKit

set_option maxRecDepth 100000 in
set_option maxHeartbeats 16000000 in
theorem law_guarded (AW : ∀ W : World, Hid (Calls Try.prog 12 #[] W fun e w' => e = .returned (.bool true) ∧ Below W.heap.size W w'))
    (q : Qry) (S : List Sch) (A R O B : Option Addr) (ch cr co cs : Nat) (w : World) (hq : QryIn w q A R O ch cr co) (hs : SchsAt w B S) (hwf : q.wf) (hws : ∀ s ∈ S, s.wf) (hms : S.length ≤ 9223372036854775807) :
    Calls Try.prog 5 #[qryV q A R O ch cr co, .slice B S.length cs] w fun e w' => e = .returned (.bool true) ∧ Below w.heap.size w w' := by
  have HQ := hid hq
  have HS := hid hs
  obtain ⟨⟨e0, ty⟩, hx⟩ : ∃ x, checkT q S = x := ⟨_, rfl⟩
  obtain ⟨bd, hbd⟩ : ∃ x, badB S = x := ⟨_, rfl⟩
  have HG : Hid (e0 = 0 → ∀ r ∈ q.rules, ∀ i (hi : i < r.atoms.length), r.atoms[i].neg = true → (guardR r i).2 = 0) := hid (fun h => guarded_all (by rw [hx]; exact h))
  have C1 := fun W h => hid (law_great q A R O ch cr co W h)
  have C2 := fun W h => hid (law_bad S B cs W h hms hbd)
  have C3 := fun W h1 h2 => hid (chk_check q S A R O B ch cr co cs W h1 h2 hwf hws hms hx)
  obtain ⟨hHd, hRl, hOr, lh, lr, lo, mh, mr, mo⟩ := hq
  have HRl := hid hRl
  have HRW := hid hwf.rules
  obtain ⟨Y, hY, _, _⟩ := nm q.aggVar
  unfold qryV at C1 C3 ⊢
  simp only [hY] at C1 C3 ⊢
  clear hx hbd hs hwf hws hHd hRl hOr hY
  obtain ⟨hd, ga, av, rs, os⟩ := q
  simp only at *
  have HB0 : Hid (Below (w.heap.size + 1) (w.alloc (.cells #[.slice A hd.length ch, .int .i64 ga, .string Y, .slice R rs.length cr, .slice O os.length co] 26)) (w.alloc (.cells #[.slice A hd.length ch, .int .i64 ga, .string Y, .slice R rs.length cr, .slice O os.length co] 26))) := hid (Below.refl _ _)
  have hb0 := (qry_cells HB0.out).2.2.2.2.2.2
  go_enter Try.func5, Try.ntmps5
  go_wp2_with fail
  refine (C1 _ (HQ.out.below hb0)).out.mono ?_
  rintro e w2 ⟨hsb, b2⟩
  obtain ⟨bg, rfl⟩ := hsb
  have HB2 := hid (HB0.out.trans (b2.mono (by simp)))
  clear C1 b2 HB0 hb0
  obtain ⟨q0, q1, q2, q3, q4, qlt, hbel⟩ := qry_cells HB2.out
  cases bg with
  | true =>
    go_wp2_with fail
    refine (AW _).out.mono ?_
    rintro e w3 ⟨rfl, b3⟩
    have hb3 := hbel.trans (b3.mono hbel.size)
    clear b3
    go_wp2
    go_ret
    exact ⟨rfl, hb3⟩
  | false =>
    go_wp2_with fail
    refine (C2 _ (HS.out.below hbel)).out.mono ?_
    rintro e w3 ⟨rfl, b3⟩
    have HB3 := hid (HB2.out.trans (b3.mono (by have := HB2.out.size; simpa using this)))
    clear C2 b3 HB2 q0 q1 q2 q3 q4 qlt hbel
    obtain ⟨q0, q1, q2, q3, q4, qlt, hbel⟩ := qry_cells HB3.out
    cases bd with
    | true =>
      go_wp2_with fail
      refine (AW _).out.mono ?_
      rintro e w4 ⟨rfl, b4⟩
      have hb4 := hbel.trans (b4.mono hbel.size)
      clear b4
      go_wp2
      go_ret
      exact ⟨rfl, hb4⟩
    | false =>
      go_wp2_with fail
      refine (C3 _ (HQ.out.below hbel) (HS.out.below hbel)).out.mono ?_
      rintro e w4 ⟨H2, R2, c2, c3, rfl, _, _, _, _, b4⟩
      have HB4 := hid (HB3.out.trans (b4.mono (by have := HB3.out.size; simpa using this)))
      clear C3 b4 HB3 q0 q1 q2 q3 q4 qlt hbel
      have HB5 := hid (HB4.out.trans ((below_one w4 (.cells #[.slice H2 ty.head.length c2, .slice R2 ty.rules.length c3] 34)).mono (by have := HB4.out.size; simpa using this)))
      clear HB4
      obtain ⟨q0, q1, q2, q3, q4, qlt, hbel⟩ := qry_cells HB5.out
      go_wp2
      clear q0 q1 q2 q3 q4 qlt hbel
      go_loopw [30, 7] (fun i v7 wx => ∃ (j : Nat) (b : Bool), j ≤ rs.length ∧ i = .int .i64 j ∧ v7 = .bool b ∧ Hid (e0 = 0 → b = true) ∧ Hid (Below (w.heap.size + 1) (w.alloc (.cells #[.slice A hd.length ch, .int .i64 ga, .string Y, .slice R rs.length cr, .slice O os.length co] 26)) wx)) (fun i _ _ => rs.length - (intOf i).toNat)
      case atStart => exact ⟨0, true, by omega, rfl, rfl, hid (fun _ => rfl), HB5⟩
      case round =>
        obtain ⟨j, b, hj, rfl, rfl, HE, HBj⟩ := hrel
        clear HB5
        obtain ⟨q0, q1, q2, q3, q4, qlt, hbel⟩ := qry_cells HBj.out
        have hsz := hbel.size
        by_cases hlt : j < rs.length
        · obtain ⟨bb, o, rfl, hc⟩ := HRl.out (by omega)
          obtain ⟨T, ct, T2, ct2, d0, d1, ha, hcn, _, _, ma, mc⟩ := hc j hlt
          replace d0 := cell_keep hbel d0
          replace d1 := cell_keep hbel d1
          have hgd := fun h => HG.out h rs[j] (List.getElem_mem hlt)
          have hwr := HRW.out rs[j] (List.getElem_mem hlt)
          obtain ⟨ru, er⟩ : ∃ r, rs[j] = r := ⟨_, rfl⟩
          rw [er] at d0 d1 ha hcn ma mc hgd hwr
          have HGd := hid hgd
          have HA := hid ha
          have C4 := fun (k : Int) W h x (hx : guardR ru k = x) => hid (chk_guard ru T T2 ct ct2 k W h ma hwr hx)
          have HB6 : Hid (Below (wr.heap.size + 1) (wr.alloc (.cells #[.slice T ru.atoms.length ct, .slice T2 ru.conds.length ct2] 46)) (wr.alloc (.cells #[.slice T ru.atoms.length ct, .slice T2 ru.conds.length ct2] 46))) := hid (Below.refl _ _)
          clear hc er ha hcn hgd hwr
          go_wp2
          clear q0 q1 q2 q3 q4 qlt d0 d1
          go_loopw [37, 7] (fun i v7 wx => ∃ (k : Nat) (b : Bool), k ≤ ru.atoms.length ∧ i = .int .i64 k ∧ v7 = .bool b ∧ Hid (e0 = 0 → b = true) ∧ Hid (Below (wr.heap.size + 1) (wr.alloc (.cells #[.slice T ru.atoms.length ct, .slice T2 ru.conds.length ct2] 46)) wx)) (fun i _ _ => ru.atoms.length - (intOf i).toNat)
          case atStart => exact ⟨0, _, by omega, rfl, rfl, HE, HB6⟩
          case round =>
            obtain ⟨k, b2, hk, rfl, rfl, HE2, HB7⟩ := hrel
            clear HB6 HE
            obtain ⟨r0, r1, rlt, rbel⟩ := rul_cells HB7.out
            have rsz := rbel.size
            have hbw := hbel.trans (rbel.mono hsz)
            by_cases hlt2 : k < ru.atoms.length
            · have HA0 := HA
              obtain ⟨b6, o6, rfl, hc⟩ := HA.out (by omega)
              obtain ⟨T5, c5, d0, d1, d2, _, _, _⟩ := hc k hlt2
              replace d0 := cell_keep hbw d0
              replace d1 := cell_keep hbw d1
              replace d2 := cell_keep hbw d2
              have hgk := fun h hn => HGd.out h k hlt2 hn
              obtain ⟨⟨g1, g2⟩, hgx⟩ : ∃ x, guardR ru (k : Int) = x := ⟨_, rfl⟩
              rw [hgx] at hgk
              obtain ⟨Z, hZ, _, _⟩ := nm ru.atoms[k].rel
              rw [hZ] at d1
              obtain ⟨ng, eng⟩ : ∃ t, ru.atoms[k].neg = t := ⟨_, rfl⟩
              obtain ⟨nt, ent⟩ : ∃ t, ru.atoms[k].ts.length = t := ⟨_, rfl⟩
              rw [eng] at d0 hgk
              rw [ent] at d2
              have HGk := hid hgk
              have HGx := hid hgx
              have hup := HB7.out.trans ((below_one wr (.cells #[.bool ng, .string Z, .slice T5 nt c5] 51)).mono (by have := HB7.out.size; simpa using this))
              have HUp := hid hup
              have hblk := below_one wr (.cells #[.bool ng, .string Z, .slice T5 nt c5] 51)
              have HA8 := hid (HA0.out.below (hbw.trans (hblk.mono hbw.size)))
              clear hc hZ eng ent hgk hgx hup hblk HA0
              cases ng with
              | false =>
                go_wp2
                go_roundw
                case rel => exact ⟨k + 1, _, by omega, by go_num, rfl, HE2, HUp⟩
                case measure => simp [intOf]; omega
              | true =>
                go_wp2_with fail
                refine (C4 k _ HA8.out (g1, g2) HGx.out).out.mono ?_
                rintro e w8 ⟨rfl, b8⟩
                have HB8 := hid (HUp.out.trans (b8.mono (by have := HUp.out.size; simpa using this)))
                clear b8 HUp HA8
                cases b2 with
                | true =>
                  by_cases hg : g2 = 0
                  · have bg : (g2 == 0) = true := by simpa using hg
                    clear HGk HE2 HGx
                    go_wp2
                    go_roundw
                    case rel => exact ⟨k + 1, _, by omega, by go_num, rfl, hid (fun _ => rfl), HB8⟩
                    case measure => simp [intOf]; omega
                  · have bg : (g2 == 0) = false := by simpa using hg
                    have HN : Hid (e0 = 0 → false = true) := hid (fun h => absurd (HGk.out h (by simp)) hg)
                    clear HGk HE2 HGx
                    go_wp2
                    go_roundw
                    case rel => exact ⟨k + 1, _, by omega, by go_num, rfl, hid (fun h => HN.out h), HB8⟩
                    case measure => simp [intOf]; omega
                | false =>
                  clear HGk HGx
                  go_wp2
                  go_roundw
                  case rel => exact ⟨k + 1, _, by omega, by go_num, rfl, HE2, HB8⟩
                  case measure => simp [intOf]; omega
            · have HN := hid (HBj.out.trans (rbel.mono (by have := HBj.out.size; simpa using this)))
              go_wp2
              go_roundw
              case rel => exact ⟨j + 1, _, by omega, by go_num, rfl, HE2, HN⟩
              case measure => simp [intOf]; omega
        · cases b with
          | true =>
            go_wp2_with fail
            refine (AW _).out.mono ?_
            rintro e w6 ⟨rfl, b6⟩
            have hb6 := hbel.trans (b6.mono hbel.size)
            clear b6
            go_wp2
            go_ret
            exact ⟨rfl, hb6⟩
          | false =>
            have bz : (e0 != 0) = true := by
              rw [bne_iff_ne]
              intro h
              exact absurd (HE.out h) (by simp)
            go_wp2_with fail
            refine (AW _).out.mono ?_
            rintro e w6 ⟨rfl, b6⟩
            have hb6 := hbel.trans (b6.mono hbel.size)
            clear b6
            go_wp2
            go_ret
            exact ⟨rfl, hb6⟩
end Go.Proofs.Ytgeapgbebbapmaa
