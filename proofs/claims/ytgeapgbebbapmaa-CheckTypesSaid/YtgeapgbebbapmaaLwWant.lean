/-
  WALK: the law's want: what the document expects of a query; no condition but that no kind of a schema is nought.
-/
import Derived.Test.YtgeapgbebbapmaaWa1
import Derived.Deep.RegionHeld3
import Derived.Deep.DeepCutAuto
namespace Go.Proofs.Ytgeapgbebbapmaa
open Go.RowKit

set_option maxRecDepth 100000 in
set_option maxHeartbeats 32000000 in
theorem law_want (q : Qry) (S : List Sch) (A R O BS : Option Addr) (ch cr co cs : Nat) (w : World) (hq : QryIn w q A R O ch cr co) (hs : SchsAt w BS S) (hwf : q.wf) (hms : S.length ≤ 8) (hk : ∀ s ∈ S, ∀ k ∈ s.kinds, k ≠ 0) {x : Int × Typ} (hx : wantT q S = x) :
    Calls Try.prog 14 #[qryV q A R O ch cr co, .slice BS S.length cs] w (RetW w x) := by
  obtain ⟨l0, hl, hx0, hx1, hx2⟩ := info_parts infoVrs2
  obtain ⟨n0i, hni, hn0, hn1, hn2⟩ := info_parts infoI1
  have HQ := hid hq
  have HS := hid hs
  have HK := hid hk
  obtain ⟨y0, e0⟩ : ∃ y, checkQ q = y := ⟨_, rfl⟩
  have HX := hid hx
  have C1 := fun W h => hid (ast_check q A R O ch cr co W h hwf e0)
  have HFEW : Hid (y0 = 0 → ((0 < q.rules.length ∧ q.rules.length ≤ 3) ∧ ∀ r ∈ q.rules, r.few) ∧ q.head.length ≤ 6) := hid (fun h => ⟨check_few (e0.trans h), (checkQ_parts (e0.trans h)).2.1⟩)
  have HW0 : Hid (y0 ≠ 0 → x = (y0, ⟨[], []⟩)) := hid (fun h => by
    rw [← hx]; unfold wantT; rw [if_pos (by rw [e0]; exact h), e0])
  have HW1 : Hid (y0 = 0 → ∀ e Es, inferAll S q.rules = (e, Es) → e ≠ 0 → x = (e, ⟨[], []⟩)) := hid (fun h e Es h1 h2 => by
    rw [← hx]; unfold wantT; rw [if_neg (by rw [e0]; simpa using h), h1, if_pos h2])
  have HW2 : Hid (y0 = 0 → ∀ Es, inferAll S q.rules = (0, Es) → ∀ e, verifyAll q.rules Es = e → e ≠ 0 → x = (e, ⟨[], []⟩)) := hid (fun h Es h1 e h2 h3 => by
    rw [← hx]; unfold wantT; rw [if_neg (by rw [e0]; simpa using h), h1, if_neg (by simp), if_pos (by rw [h2]; exact h3), h2])
  have HW3 : Hid (y0 = 0 → ∀ Es, inferAll S q.rules = (0, Es) → verifyAll q.rules Es = 0 → x = if headT q Es = false then (5, ⟨[], []⟩) else if q.agg = 2 ∧ kindE (Es.headD []) q.aggVar ≠ 1 then (5, ⟨[], []⟩) else (0, ⟨q.head.map (kindE (Es.headD [])), Es⟩)) := hid (fun h Es h1 h2 => by
    rw [← hx]; unfold wantT; rw [if_neg (by rw [e0]; simpa using h), h1, if_neg (by simp), if_neg (by rw [h2]; simp)])
  obtain ⟨hHd, hRl, hOr, lh, lr, lo, mh, mr, mo⟩ := hq
  have HHd := hid hHd
  have HRl := hid hRl
  obtain ⟨Y, hY, _, hYl⟩ := nm q.aggVar
  have HYL := hid hYl
  unfold qryV at C1 ⊢
  simp only [hY] at C1 ⊢
  clear hx hs hwf hk hHd hRl hOr hY hYl lh lr lo mo e0
  obtain ⟨hd, ga, av, rs, os⟩ := q
  simp only at *
  have HB0 : Hid (Below (w.heap.size + 1) (w.alloc (.cells #[.slice A hd.length ch, .int .i64 ga, .string Y, .slice R rs.length cr, .slice O os.length co] 26)) (w.alloc (.cells #[.slice A hd.length ch, .int .i64 ga, .string Y, .slice R rs.length cr, .slice O os.length co] 26))) := hid (Below.refl _ _)
  have hb0 := (qry_cells HB0.out).2.2.2.2.2.2
  go_enter Try.func14, Try.ntmps14
  go_wp2_with fail
  refine (C1 _ (HQ.out.below hb0)).out.mono ?_
  rintro e w1 ⟨rfl, b1⟩
  have HB1 := hid (HB0.out.trans (b1.mono (by simp)))
  clear C1 b1 HB0 hb0
  obtain ⟨q0, q1, q2, q3, q4, qlt, hbel⟩ := qry_cells HB1.out
  by_cases hy0 : y0 = 0
  · have bq : (y0 != 0) = false := by simpa using hy0
    obtain ⟨⟨⟨hr0, hr3⟩, hfw⟩, hh6⟩ := HFEW.out hy0
    have HFW := hid hfw
    have HW1' := hid (HW1.out hy0)
    have HW2' := hid (HW2.out hy0)
    have HW3' := hid (HW3.out hy0)
    obtain ⟨y1, hy1⟩ : ∃ y, inferAll S rs = y := ⟨_, rfl⟩
    have HY1 : Hid (glueA [] (inferAll S (rs.drop 0)) = y1) := hid (inferAll_y.trans hy1)
    have HIA := hid hy1
    clear hfw HFEW HW0 HW1 HW2 HW3 hy0 hy1
    go_wp2
    clear q0 q1 q2 q3 q4 qlt
    go_loopw [31, 8] (fun i v8 wr => ∃ (k : Nat) (us : List Value) (Es : List Env), k ≤ rs.length ∧ i = .int .i64 k ∧ Hid (us.length = k ∧ Es.length = k) ∧ Hid (glueA Es (inferAll S (rs.drop k)) = y1) ∧ Hid (wr.ownsRow w1.heap.size 63 1 v8 us.length us) ∧ Hid (UsR wr w1.heap.size us Es) ∧ Hid (∀ E ∈ Es, E.length ≤ 100) ∧ Hid (Below w1.heap.size w1 wr)) (fun i _ _ => rs.length - (intOf i).toNat)
    case atStart => exact ⟨0, [], [], by omega, rfl, hid ⟨rfl, rfl⟩, HY1, hid (World.ownsRow_nil _ _ _ _), hid UsR.nil, hid (fun E hE => by simp at hE), hid (Below.refl _ _)⟩
    case round =>
      rename World => wo
      obtain ⟨k, us, Es, hk, rfl, HL, HG, HV, HUS, HE, HBz⟩ := hrel
      clear HY1
      have HBo := hid (HB1.out.trans (HBz.out.mono (by have := HB1.out.size; simpa using this)))
      have hbo := (qry_cells HBo.out).2.2.2.2.2.2
      have hoz := hbo.size
      have h1z := HBz.out.size
      by_cases hlt : k < rs.length
      · obtain ⟨bb, o, rfl, hc⟩ := HRl.out (by omega)
        obtain ⟨T, ct, T2, ct2, d0, d1, ha, hcn, _, _, ma, mc⟩ := hc k hlt
        have hfk := HFW.out rs[k] (List.getElem_mem hlt)
        have hgon := fun E h => glueA_on (S := S) (Es := Es) hlt (E := E) h
        have hgbad := fun e E h h2 => glueA_bad (S := S) (Es := Es) hlt (e := e) (E := E) h h2
        replace d0 := cell_keep hbo d0
        replace d1 := cell_keep hbo d1
        obtain ⟨ru, er⟩ : ∃ r, rs[k] = r := ⟨_, rfl⟩
        rw [er] at d0 d1 ha hcn ma mc hfk hgon hgbad
        have hbr := below_one wo (.cells #[.slice T ru.atoms.length ct, .slice T2 ru.conds.length ct2] 46)
        have hbw := hbo.trans (hbr.mono hoz)
        have fa := hfk.a
        have fc := hfk.c
        have C2 := hid (law_rule ru T T2 ct ct2 (wo.alloc (.cells #[.slice T ru.atoms.length ct, .slice T2 ru.conds.length ct2] 46)) (ha.below hbw) (hcn.below hbw) (by omega) (by omega) (fun a h => by have := hfk.t a h; omega))
        have HFK := hid hfk
        have HGON := hid hgon
        have HGBAD := hid hgbad
        have HBR := hid (HBz.out.trans (hbr.mono h1z))
        have HV2 := hid (own_belowS HV.out hbr)
        have HUS2 := hid (HUS.out.below hbr)
        have hlr := cell_lt d0
        clear hc er ha hcn hfk hgon hgbad hbr hbw HV HUS HBo
        go_wp2_with fail
        refine C2.out.mono ?_
        rintro e w3 ⟨A3, B3, ca3, cb3, rfl, hA3, hB3, b3⟩
        have HB3 := hid (HBR.out.trans (b3.mono HBR.out.size))
        have HV3 := hid (own_belowS HV2.out b3)
        have HUS3 := hid (HUS2.out.below b3)
        have HA3 := hid hA3
        have HC3 := hid hB3
        have C3 := hid (law_all S BS cs w3 (HS.out.below (hbel.trans (HB3.out.mono hbel.size))) (by omega))
        clear C2 b3 hA3 hB3 HBR HV2 HUS2 d0 d1 hlr
        go_wp2_with fail
        refine C3.out.mono ?_
        rintro e w4 ⟨B4, c4, rfl, hS4, _, b4⟩
        have HB4 := hid (HB3.out.trans (b4.mono HB3.out.size))
        have HV4 := hid (own_belowS HV3.out b4)
        have HUS4 := hid (HUS3.out.below b4)
        obtain ⟨⟨ei, Ei⟩, hei⟩ : ∃ x, inferT S [] ru.atoms = x := ⟨_, rfl⟩
        have C4 := hid (ref_vars ru S A3 B3 B4 ca3 cb3 c4 w4 (RAsAt.below HA3.out b4) hS4 (by omega) HK.out fa HFK.out.t hei)
        have HEI := hid hei
        clear C3 b4 hS4 HB3 HV3 HUS3 HA3 HC3 hei
        go_wp2_with fail
        refine C4.out.mono ?_
        rintro e w5 ⟨u5, rfl, hu5, hl5, b5⟩
        have HB5 := hid (HB4.out.trans (b5.mono HB4.out.size))
        have HV5 := hid (own_belowS HV4.out b5)
        have HUS5 := hid (HUS4.out.below b5)
        have HU5 := hid (own_mono (B := w1.heap.size) hu5 HB4.out.size)
        simp only at hl5
        clear C4 b5 hu5 HB4 HV4 HUS4
        by_cases hei0 : ei = 0
        · subst hei0
          have HG2 := hid ((HGON.out Ei HEI.out).symm.trans HG.out)
          have hz5 := HB5.out.size
          have hu5' := HU5.out
          obtain ⟨T5, c5, hT5, _, _⟩ := own_vars hu5'
          subst hT5
          clear hu5' HGON HGBAD HG HEI
          go_wp2_with (at_builtin; refine wpList_append_new2 Try.underlying38 hl hx0 hx1 hx2 rfl (by decide) (by decide) rfl rfl rfl HV5.out rfl rfl rfl rfl (by have := HL.out.1; omega) hz5 ?_; intro v9 w9 hown9 hg9)
          have hU9 := HU5.out.kept hg9 (own_apart HU5.out HV5.out (by decide))
          have HUS9 := hid ((HUS5.out.kept HV5.out (by decide) hg9).push (HL.out.1.trans HL.out.2.symm) hU9)
          have HV9 : Hid (w9.ownsRow w1.heap.size 63 1 v9 (us ++ [Value.slice T5 Ei.length c5]).length (us ++ [Value.slice T5 Ei.length c5])) := hid (by
            rw [List.length_append, List.length_singleton]; exact hown9)
          have HB9 := hid (HB5.out.grown hg9 hz5 (fun k e => (HV5.out.lt k e).1))
          have HE9 : Hid (∀ E ∈ Es ++ [Ei], E.length ≤ 100) := hid (fun E hE => by
            rcases List.mem_append.1 hE with hE | hE
            · exact HE.out E hE
            · rw [List.mem_singleton] at hE
              subst hE
              exact hl5)
          have HL9 : Hid ((us ++ [Value.slice T5 Ei.length c5]).length = k + 1 ∧ (Es ++ [Ei]).length = k + 1) := hid (by
            rw [List.length_append, List.length_append, HL.out.1, HL.out.2]; exact ⟨rfl, rfl⟩)
          clear hown9 hg9 hU9 HV5 HUS5 HU5 HB5
          go_wp2
          go_roundw
          case rel => exact ⟨k + 1, us ++ [Value.slice T5 Ei.length c5], Es ++ [Ei], by omega, by go_num, HL9, HG2, HV9, HUS9, HE9, HB9⟩
          case measure => simp [intOf]; omega
        · have bi : (ei != 0) = true := by simpa using hei0
          have hg := (HGBAD.out ei Ei HEI.out hei0).symm.trans HG.out
          have hxx := HW1'.out ei [] (HIA.out.trans hg.symm) hei0
          subst hxx
          have hb5 := hbel.trans (HB5.out.mono hbel.size)
          clear HW1' HW2' HW3' HGON HGBAD HG HEI hg hei0
          go_wp2
          go_ret3
          exact ⟨none, none, 0, 0, rfl, fun h => absurd h (by simp), fun h => absurd h (by simp), hb5⟩
      · have hkr : k = rs.length := by omega
        have hyy := (glueA_end hlt).symm.trans HG.out
        subst hyy
        have HW2 := hid (HW2'.out Es HIA.out)
        have HW3 := hid (HW3'.out Es HIA.out)
        obtain ⟨A8, c8, hv8, hvss, hle8⟩ := HUS.out.at (HL.out.1.trans HL.out.2.symm) HV.out
        subst hv8
        have hel : Es.length = rs.length := HL.out.2.trans hkr
        have HEL := hid hel
        have HVS := hid hvss
        obtain ⟨b8, o8, hA8, hc8⟩ := hvss (by omega)
        subst hA8
        have HC8 := hid hc8
        obtain ⟨y2, hy2⟩ : ∃ y, verifyAll rs Es = y := ⟨_, rfl⟩
        have HY2 : Hid (verifyAll (rs.drop 0) (Es.drop 0) = y2) := hid hy2
        have HVA := hid hy2
        obtain ⟨q0, q1, q2, q3, q4, qlt, hbel2⟩ := qry_cells HBo.out
        clear HW1' HW2' HW3' HG HIA hy2 hvss hc8 HV HUS HL hel hkr
        go_wp2
        clear q0 q1 q2 q3 q4 qlt
        go_loopw [54] (fun i wr => ∃ k : Nat, k ≤ rs.length ∧ i = .int .i64 k ∧ Hid (verifyAll (rs.drop k) (Es.drop k) = y2) ∧ Hid (Below wo.heap.size wo wr)) (fun i _ => rs.length - (intOf i).toNat)
        case atStart => exact ⟨0, by omega, rfl, HY2, hid (Below.refl _ _)⟩
        case round =>
          obtain ⟨k2, hk2, rfl, HY, HB2⟩ := hrel
          clear HY2
          have hbr2 := hbo.trans (HB2.out.mono hoz)
          have hrz := hbr2.size
          have h2z := HB2.out.size
          by_cases hlt2 : k2 < rs.length
          · have hle2 : k2 < Es.length := by have := HEL.out; omega
            obtain ⟨bb, o, rfl, hc⟩ := HRl.out (by omega)
            obtain ⟨T, ct, T2, ct2, d0, d1, ha, hcn, _, _, ma, mc⟩ := hc k2 hlt2
            obtain ⟨T5, c5, f0, hvr, _⟩ := HC8.out k2 hle2
            have hfk := HFW.out rs[k2] (List.getElem_mem hlt2)
            have hE100 := HE.out Es[k2] (List.getElem_mem hle2)
            have hvon := fun h => verifyAll_on hlt2 hle2 h
            have hvbad := fun h => verifyAll_bad hlt2 hle2 h
            replace d0 := cell_keep hbr2 d0
            replace d1 := cell_keep hbr2 d1
            replace f0 := cell_keep HB2.out f0
            obtain ⟨ru, er⟩ : ∃ r, rs[k2] = r := ⟨_, rfl⟩
            obtain ⟨Ek, eE⟩ : ∃ r, Es[k2] = r := ⟨_, rfl⟩
            rw [er] at d0 d1 ha hcn ma mc hfk hvon hvbad
            rw [eE] at f0 hvr hE100 hvon hvbad
            obtain ⟨yk, hyk⟩ : ∃ y, verifyT ru Ek = y := ⟨_, rfl⟩
            rw [hyk] at hvon hvbad
            have fa := hfk.a
            have fc := hfk.c
            have hbr := below_one wr (.cells #[.slice T ru.atoms.length ct, .slice T2 ru.conds.length ct2] 46)
            have hW1 : Below w.heap.size w (wr.alloc (.cells #[.slice T ru.atoms.length ct, .slice T2 ru.conds.length ct2] 46)) := hbr2.trans (hbr.mono hrz)
            have HBD := hid hW1.drew
            have hWo : Below wo.heap.size wo (wr.alloc (.cells #[.slice T ru.atoms.length ct, .slice T2 ru.conds.length ct2] 46)) := HB2.out.trans (hbr.mono h2z)
            have HWO := hid hWo.drew
            have C2 := fun W (hb : Below w.heap.size w W) => hid (law_rule ru T T2 ct ct2 W (ha.below hb) (hcn.below hb) (by omega) (by omega) (fun a h => by have := hfk.t a h; omega))
            have C3 := fun A3 B3 ca3 cb3 (W : World) (hb : Below wo.heap.size wo W) h1 h2 => hid (ref_rest ru Ek A3 B3 T5 ca3 cb3 c5 W h1 h2 (hvr.below hb) (by omega) (by omega) (fun a h => by have := hfk.t a h; omega) (by omega) hyk)
            have hnew := heap_alloc_new wr (.cells #[.slice T ru.atoms.length ct, .slice T2 ru.conds.length ct2] 46)
            have e0 : (wr.alloc (.cells #[.slice T ru.atoms.length ct, .slice T2 ru.conds.length ct2] 46)).cell? ⟨wr.heap.size, 0, none⟩ = some (.slice T ru.atoms.length ct) := by rw [cell_res' hnew]; rfl
            have e1 : (wr.alloc (.cells #[.slice T ru.atoms.length ct, .slice T2 ru.conds.length ct2] 46)).cell? ⟨wr.heap.size, 1, none⟩ = some (.slice T2 ru.conds.length ct2) := by rw [cell_res' hnew]; rfl
            have e2 := cell_keep hbr f0
            have HZ2 := hid (show wr.heap.size < (wr.alloc (.cells #[.slice T ru.atoms.length ct, .slice T2 ru.conds.length ct2] 46)).heap.size by simp)
            have HVON := hid hvon
            have HVBAD := hid hvbad
            have hk0 : (0 : Int) ≤ (k2 : Int) := by omega
            have hk1 : (k2 : Int) < (Es.length : Int) := by omega
            have hlr := cell_lt d0
            have hl8 := cell_lt f0
            clear hc er eE ha hcn hfk hvr hbr hW1 hWo hnew hvon hvbad hyk
            go_upto_region 16 with fail
            clear d0 d1 f0
            generalize (wr.alloc (.cells #[.slice T ru.atoms.length ct, .slice T2 ru.conds.length ct2] 46)) = w1b at *
            go_region_held3 (fun w' => w'.cell? ⟨wr.heap.size, 0, none⟩ = some (.slice T ru.atoms.length ct) ∧ w'.cell? ⟨wr.heap.size, 1, none⟩ = some (.slice T2 ru.conds.length ct2) ∧ w'.cell? ⟨b8, o8 + k2, none⟩ = some (.slice T5 Ek.length c5)) (first | exact ⟨e0, e1, e2⟩ | exact ⟨n0, n1, n2⟩ | exact ⟨p0, p1, p2⟩ | assumption | fail)
              (first
                | (go_at_call 18; refine (C2 _ HBD.out).out.mono ?_; rintro e w3 ⟨A3, B3, ca3, cb3, rfl, hA3, hB3, b3⟩; have n0 := cell_keep b3 e0; have n1 := cell_keep b3 e1; have n2 := cell_keep b3 e2; have HA3 := hid hA3; have HB3 := hid hB3; have HW3x := hid (HWO.out.trans (b3.mono HWO.out.size)); clear hA3 hB3 b3)
                | (go_at_call 27; refine (C3 A3 B3 ca3 cb3 _ HW3x.out HA3.out HB3.out).out.mono ?_; rintro e w5 ⟨rfl, b5⟩; have p0 := cell_keep b5 n0; have p1 := cell_keep b5 n1; have p2 := cell_keep b5 n2; have HB5 := hid (HW3x.out.trans (b5.mono HW3x.out.size)); clear b5)
                | fail)
            all_goals
              clear n0 n1 n2 p0 p1 p2 e0 e1 e2
              by_cases hyk : yk = 0
              · have by0 : (yk != 0) = false := by simpa using hyk
                have HN := hid ((HVON.out hyk).symm.trans HY.out)
                clear HVON HVBAD HY hyk
                go_wp2
                go_roundw
                case rel => exact ⟨k2 + 1, by omega, by go_num, HN, HB5⟩
                case measure => simp [intOf]; omega
              · have by0 : (yk != 0) = true := by simpa using hyk
                have hxx := HW2.out y2 HVA.out (by rw [← HY.out, HVBAD.out hyk]; exact hyk)
                have hyy : y2 = yk := by rw [← HY.out, HVBAD.out hyk]
                rw [hyy] at hxx
                subst hxx
                have hb5 := hbel.trans ((HBz.out.trans (HB5.out.mono h1z)).mono hbel.size)
                clear HVON HVBAD HY hyk hyy HW2 HW3
                go_wp2
                go_ret3
                exact ⟨none, none, 0, 0, rfl, fun h => absurd h (by simp), fun h => absurd h (by simp), hb5⟩
          · rename World => wp
            have hyy : y2 = 0 := by rw [← HY.out]; exact verifyAll_end hlt2
            have HW4 := hid (HW3.out (HVA.out.trans hyy))
            have hlen0 : 0 < Es.length := by have := HEL.out; omega
            obtain ⟨E0, hE0⟩ : ∃ E, Es.headD [] = E := ⟨_, rfl⟩
            have hE0' : Es[0] = E0 := by rw [← hE0]; cases Es with | nil => simp at hlen0 | cons a l => rfl
            rw [hE0] at HW4
            obtain ⟨T0, c0, f0, hv0, _⟩ := HC8.out 0 hlen0
            have hl0 := HE.out Es[0] (List.getElem_mem hlen0)
            rw [hE0'] at f0 hv0 hl0
            have F0 : Hid (wo.cell? ⟨b8, o8, none⟩ = some (.slice T0 E0.length c0)) := hid f0
            have HV0 := hid hv0
            have HHE0 := hid hE0
            obtain ⟨q0, q1, q2, q3, q4, qlt, hbel3⟩ := qry_cells (HBo.out.trans (HB2.out.mono (by have := HBo.out.size; simpa using this)))
            clear HY HW2 HW3 HVA hyy hE0 hE0' f0 hv0
            go_wp2
            clear q0 q1 q2 q3 q4 qlt
            go_loopw [73, 16] (fun i v16 wr => ∃ k : Nat, k ≤ hd.length ∧ i = .int .i64 k ∧ Hid (wr.ownsRow wp.heap.size 3 1 v16 k (hdK E0 (hd.take k))) ∧ Hid (Below wp.heap.size wp wr)) (fun i _ _ => hd.length - (intOf i).toNat)
            case atStart => exact ⟨0, by omega, rfl, hid (World.ownsRow_nil _ _ _ _), hid (Below.refl _ _)⟩
            case round =>
              obtain ⟨k3, hk3, rfl, HV3, HB3⟩ := hrel
              have h3z := HB3.out.size
              have hbr3 := hbr2.trans (HB3.out.mono hrz)
              have HWr := hid (HB2.out.trans (HB3.out.mono h2z))
              by_cases hlt3 : k3 < hd.length
              · obtain ⟨bb, o, rfl, hc⟩ := HHd.out (by omega)
                have d0 := cell_keep hbr3 (hc k3 hlt3)
                have hsn := hdK_succ (E := E0) hlt3
                obtain ⟨h, eh⟩ : ∃ h, hd[k3] = h := ⟨_, rfl⟩
                rw [eh] at d0 hsn
                obtain ⟨X, hX, _, hXl⟩ := nm h
                rw [hX] at d0
                have f0 := cell_keep HWr.out F0.out
                obtain ⟨q, hq⟩ : ∃ q, kindE E0 h = q := ⟨_, rfl⟩
                rw [hq] at hsn
                have C2 := hid (ref_Kind E0 T0 c0 X h hXl wr (HV0.out.below HWr.out) (by omega) hq)
                have HSN := hid hsn
                have hdl := cell_lt d0
                have hfl := cell_lt f0
                clear hc eh hX hXl hq hsn
                go_wp2_with fail
                refine C2.out.mono ?_
                rintro e w5 ⟨rfl, b5⟩
                have HV5 := hid (own_belowS HV3.out b5)
                have HB5 := hid (HB3.out.trans (b5.mono h3z))
                have hz5 := HB5.out.size
                clear C2 b5 HV3 HB3 d0 f0 hdl hfl
                go_wp2_with (at_builtin; refine wpList_append_new2 Try.underlying31 hni hn0 hn1 hn2 rfl (by decide) (by decide) rfl rfl rfl HV5.out rfl rfl rfl rfl (by omega) hz5 ?_; intro v9 w9 hown9 hg9)
                rw [← HSN.out] at hown9
                have HV9 := hid hown9
                have HB9 := hid (HB5.out.grown hg9 hz5 (fun k e => (HV5.out.lt k e).1))
                clear hown9 hg9 HV5 HB5
                go_wp2
                go_roundw
                case rel => exact ⟨k3 + 1, by omega, by go_num, HV9, HB9⟩
                case measure => simp [intOf]; omega
              · rename World => wh
                have HV4 : Hid (wh.ownsRow wp.heap.size 3 1 u16 (hd.map (kindE E0)).length ((hd.map (kindE E0)).map (.int .i64))) := hid (by
                  have h1 := HV3.out
                  rw [List.take_of_length_le (l := hd) (by omega), show k3 = hd.length by omega] at h1
                  rw [List.length_map]; exact h1)
                obtain ⟨A16, c16, hv16, hkd, _⟩ := own_kinds HV4.out
                rw [List.length_map] at hv16
                subst hv16
                have HKD := hid hkd
                clear HV3 HV4 hkd
                have h1e : (1 : Int) ≤ (Es.length : Int) := by omega
                have he3 : Es.length ≤ 3 := by have := HEL.out; omega
                obtain ⟨a87, ha87, hb87⟩ : ∃ a, (if c8 = 1 then some (⟨b8, o8, none⟩ : Addr) else some ⟨b8, o8 + 1, none⟩) = some ⟨b8, a, none⟩ ∧ (1 < Es.length → a = o8 + 1) := by
                  by_cases h : c8 = 1
                  · exact ⟨o8, by rw [if_pos h], fun h2 => by omega⟩
                  · exact ⟨o8 + 1, by rw [if_neg h], fun _ => rfl⟩
                have HB87 := hid hb87
                have HP0 : Hid (∀ p (hp : p < Es.length), p < 0 + 1 → (hd.all fun v => kindE Es[p] v == kindE E0 v) = true) := hid (fun p hp h => by
                  have : p = 0 := by omega
                  subst this
                  have he : Es[0] = E0 := by
                    rw [← HHE0.out]
                    cases Es with
                    | nil => simp at hp
                    | cons a l => rfl
                  rw [he]; simp)
                clear hb87
                go_wp2
                clear ha87
                go_loopw [89] (fun i wr => ∃ k : Nat, k ≤ Es.length - 1 ∧ i = .int .i64 k ∧ Hid (∀ p (hp : p < Es.length), p < k + 1 → (hd.all fun v => kindE Es[p] v == kindE E0 v) = true) ∧ Hid (Below wh.heap.size wh wr)) (fun i _ => Es.length - 1 - (intOf i).toNat)
                case atStart => exact ⟨0, by omega, rfl, HP0, hid (Below.refl _ _)⟩
                case round =>
                  rename World => wk
                  obtain ⟨k4, hk4, rfl, HP, HB4⟩ := hrel
                  clear HP0
                  have hbr4 := hbr3.trans (HB4.out.mono hbr3.size)
                  have hz4 := hbr4.size
                  have HWk := hid (HWr.out.trans (HB4.out.mono HWr.out.size))
                  have HBok := hid (((HBo.out.trans (HB2.out.mono (by have := HBo.out.size; simpa using this))).trans (HB3.out.mono (by have := HB1.out.size; have h9 := h1z; have h8 := h2z; simp at this ⊢; omega))).trans (HB4.out.mono (by have := HB1.out.size; have h9 := h1z; have h8 := h2z; have h7 := h3z; simp at this ⊢; omega)))
                  obtain ⟨q0, q1, q2, q3, q4, qlt, hbelk⟩ := qry_cells HBok.out
                  by_cases hlt4 : k4 < Es.length - 1
                  · have hle4 : k4 + 1 < Es.length := by omega
                    obtain ⟨T5, c5, f0, hvr, _⟩ := HC8.out (k4 + 1) hle4
                    have f1 : wk.cell? ⟨b8, a87 + k4, none⟩ = some (.slice T5 Es[k4 + 1].length c5) := by
                      rw [show a87 + k4 = o8 + (k4 + 1) by have := HB87.out (by omega); omega]
                      exact cell_keep HWk.out f0
                    have hE100 := HE.out Es[k4 + 1] (List.getElem_mem hle4)
                    have hon : (hd.all fun v => kindE Es[k4 + 1] v == kindE E0 v) = true → ∀ p (hp : p < Es.length), p < k4 + 1 + 1 → (hd.all fun v => kindE Es[p] v == kindE E0 v) = true := fun h p hp hpi => by
                      by_cases hpe : p = k4 + 1
                      · subst hpe; exact h
                      · exact HP.out p hp (by omega)
                    have hoff : (hd.all fun v => kindE Es[k4 + 1] v == kindE E0 v) = false → headT ⟨hd, ga, av, rs, os⟩ Es = false := fun h => by
                      unfold headT
                      rw [HHE0.out, List.all_eq_false]
                      exact ⟨_, List.getElem_mem hle4, by simpa using h⟩
                    obtain ⟨Ek, eE⟩ : ∃ r, Es[k4 + 1] = r := ⟨_, rfl⟩
                    rw [eE] at f1 hvr hE100 hon hoff
                    have HVR := hid hvr
                    have HONk := hid hon
                    have HOFF := hid hoff
                    have hfl := cell_lt f1
                    clear f0 hvr eE hon hoff
                    go_wp2
                    clear q0 q1 q2 q3 q4 qlt f1 hfl
                    go_loopw [96] (fun i wr => ∃ k : Nat, k ≤ hd.length ∧ i = .int .i64 k ∧ Hid ((hd.take k).all (fun v => kindE Ek v == kindE E0 v) = true) ∧ Hid (Below wk.heap.size wk wr)) (fun i _ => hd.length - (intOf i).toNat)
                    case atStart => exact ⟨0, by omega, rfl, hid rfl, hid (Below.refl _ _)⟩
                    case round =>
                      obtain ⟨k5, hk5, rfl, HA5, HB5⟩ := hrel
                      have hbr5 := hbr4.trans (HB5.out.mono hz4)
                      by_cases hlt5 : k5 < hd.length
                      · obtain ⟨bb, o, rfl, hc⟩ := HHd.out (by omega)
                        have d0 := cell_keep hbr5 (hc k5 hlt5)
                        obtain ⟨b16, o16, rfl, hkc⟩ := HKD.out (by simpa using (by omega : 0 < hd.length))
                        have g0 := cell_keep (HB4.out.trans (HB5.out.mono HB4.out.size)) (hkc k5 (by simpa using hlt5))
                        simp only [List.getElem_map] at g0
                        have hall : (hd.take (k5 + 1)).all (fun v => kindE Ek v == kindE E0 v) = ((hd.take k5).all (fun v => kindE Ek v == kindE E0 v) && (kindE Ek hd[k5] == kindE E0 hd[k5])) := by
                          rw [List.take_succ_eq_append_getElem hlt5, List.all_append]; simp
                        have hno : (kindE Ek hd[k5] == kindE E0 hd[k5]) = false → (hd.all fun v => kindE Ek v == kindE E0 v) = false := fun h => by
                          rw [List.all_eq_false]; exact ⟨_, List.getElem_mem hlt5, by simpa using h⟩
                        rw [HA5.out, Bool.true_and] at hall
                        obtain ⟨h, eh⟩ : ∃ h, hd[k5] = h := ⟨_, rfl⟩
                        rw [eh] at d0 g0 hall hno
                        obtain ⟨qa, hqa⟩ : ∃ q, kindE Ek h = q := ⟨_, rfl⟩
                        obtain ⟨qb, hqb⟩ : ∃ q, kindE E0 h = q := ⟨_, rfl⟩
                        rw [hqa, hqb] at hall hno
                        rw [hqb] at g0
                        obtain ⟨X, hX, _, hXl⟩ := nm h
                        rw [hX] at d0
                        have hdl := cell_lt d0
                        have H1 := fun p : BelowBy wr => hid (ref_Kind Ek T5 c5 X h hXl p.to (HVR.out.below (HWk.out.trans ((HB5.out.trans (p.le.mono HB5.out.size)).mono HWk.out.size))) (by omega) hqa)
                        have e1 := fun p : BelowBy wr => by_cell g0 p
                        have HALL := hid hall
                        have HNO := hid hno
                        clear hc hkc eh hX hXl hqa hqb hall hno HA5
                        by_cases hqq : qa = qb
                        · have bqq : (qa != qb) = false := by simpa using hqq
                          have HA6 : Hid ((hd.take (k5 + 1)).all (fun v => kindE Ek v == kindE E0 v) = true) := hid (by rw [HALL.out, hqq]; simp)
                          clear HALL HNO hqq
                          go_wp2_with fail
                          refine wp_region_below (by kernel_rfl) (by kernel_rfl) ?_
                          repeat (go_big_quiet_step (first | with_reducible exact calls_by (H1 _).out))
                          refine wpQuiet_nil ?_
                          rintro wq ⟨⟨wqx, kq⟩, rfl⟩
                          clear e1 H1
                          have HB6 := hid (HB5.out.trans (kq.mono HB5.out.size))
                          go_wp2
                          go_roundw
                          case rel => exact ⟨k5 + 1, by omega, by go_num, HA6, HB6⟩
                          case measure => simp [intOf]; omega
                        · have bqq : (qa != qb) = true := by simpa using hqq
                          have hx5 : x = (5, ⟨[], []⟩) := by rw [HW4.out, if_pos (HOFF.out (HNO.out (by simpa using hqq)))]
                          subst hx5
                          clear HALL HNO hqq HW4 HONk HOFF
                          go_wp2_with fail
                          refine wp_region_below (by kernel_rfl) (by kernel_rfl) ?_
                          repeat (go_big_quiet_step (first | with_reducible exact calls_by (H1 _).out))
                          refine wpQuiet_nil ?_
                          rintro wq ⟨⟨wqx, kq⟩, rfl⟩
                          clear e1 H1
                          have hb6 := hbr5.trans (kq.mono hbr5.size)
                          go_wp2
                          go_ret3
                          exact ⟨none, none, 0, 0, rfl, fun h => absurd h (by simp), fun h => absurd h (by simp), hb6⟩
                      · have HP2 := hid (HONk.out (by
                          have h1 := HA5.out
                          rwa [List.take_of_length_le (l := hd) (by omega)] at h1))
                        have HB6 := hid (HB4.out.trans (HB5.out.mono HB4.out.size))
                        clear HA5 HONk HOFF
                        go_wp2
                        go_roundw
                        case rel => exact ⟨k4 + 1, by omega, by go_num, HP2, HB6⟩
                        case measure => simp [intOf]; omega
                  · have hht : headT ⟨hd, ga, av, rs, os⟩ Es = true := by
                      unfold headT
                      rw [HHE0.out, List.all_eq_true]
                      intro E hE
                      obtain ⟨p, hp, rfl⟩ := List.getElem_of_mem hE
                      exact HP.out p hp (by omega)
                    have hx6 := HW4.out
                    rw [if_neg (by rw [hht]; decide)] at hx6
                    have f0 := cell_keep HWk.out F0.out
                    have HX6 := hid hx6
                    have a1 := fun p : BelowBy wk => by_cell q1 p
                    have a2 := fun p : BelowBy wk => by_cell q2 p
                    have a5 := fun p : BelowBy wk => by_cell f0 p
                    have HKD2 := hid (HKD.out.below HB4.out)
                    have HVS2 := hid (HVS.out.below HWk.out)
                    clear HW4 HP hht hx6
                    by_cases hga : ga = 2
                    · have bga : (ga == 2) = true := by simpa using hga
                      obtain ⟨qa, hqa⟩ : ∃ q, kindE E0 av = q := ⟨_, rfl⟩
                      have H1 := fun p : BelowBy wk => hid (ref_Kind E0 T0 c0 Y av HYL.out p.to (HV0.out.below (HWk.out.trans (p.le.mono HWk.out.size))) (by omega) hqa)
                      by_cases hq1 : qa = 1
                      · have b1q : (qa != 1) = false := by simpa using hq1
                        have hx7 : x = (0, ⟨hd.map (kindE E0), Es⟩) := by rw [HX6.out, if_neg (by rw [hqa]; exact fun h => h.2 hq1)]
                        subst hx7
                        clear HX6 hqa hq1 hga
                        go_wp2_with fail
                        refine wp_region_below (by kernel_rfl) (by kernel_rfl) ?_
                        repeat (go_big_quiet_step (first | with_reducible exact calls_by (H1 _).out))
                        refine wpQuiet_nil ?_
                        rintro wq ⟨⟨wqx, kq⟩, rfl⟩
                        have hb6 := hbr4.trans (kq.mono hz4)
                        have HKD3 := hid (HKD2.out.below kq)
                        have HVS3 := hid (HVS2.out.below kq)
                        clear a1 a2 a5 H1
                        go_wp2
                        go_ret3
                        exact ⟨A16, some ⟨b8, o8, none⟩, c16, c8, by simp, HKD3.out, HVS3.out, hb6⟩
                      · have b1q : (qa != 1) = true := by simpa using hq1
                        have hx7 : x = (5, ⟨[], []⟩) := by rw [HX6.out, if_pos ⟨hga, by rw [hqa]; exact hq1⟩]
                        subst hx7
                        clear HX6 hqa hq1 hga
                        go_wp2_with fail
                        refine wp_region_below (by kernel_rfl) (by kernel_rfl) ?_
                        repeat (go_big_quiet_step (first | with_reducible exact calls_by (H1 _).out))
                        refine wpQuiet_nil ?_
                        rintro wq ⟨⟨wqx, kq⟩, rfl⟩
                        have hb6 := hbr4.trans (kq.mono hz4)
                        clear a1 a2 a5 H1
                        go_wp2
                        go_ret3
                        exact ⟨none, none, 0, 0, rfl, fun h => absurd h (by simp), fun h => absurd h (by simp), hb6⟩
                    · have bga : (ga == 2) = false := by simpa using hga
                      have hx7 : x = (0, ⟨hd.map (kindE E0), Es⟩) := by rw [HX6.out, if_neg (fun h => hga h.1)]
                      subst hx7
                      clear HX6 hga
                      go_wp2_with fail
                      refine wp_region_below (by kernel_rfl) (by kernel_rfl) ?_
                      repeat (go_big_quiet_step (fail))
                      refine wpQuiet_nil ?_
                      rintro wq ⟨⟨wqx, kq⟩, rfl⟩
                      have hb6 := hbr4.trans (kq.mono hz4)
                      have HKD3 := hid (HKD2.out.below kq)
                      have HVS3 := hid (HVS2.out.below kq)
                      clear a1 a2 a5
                      go_wp2
                      go_ret3
                      exact ⟨A16, some ⟨b8, o8, none⟩, c16, c8, by simp, HKD3.out, HVS3.out, hb6⟩
  · have bq : (y0 != 0) = true := by simpa using hy0
    have hxx := HW0.out hy0
    subst hxx
    clear HFEW HW0 HW1 HW2 HW3 hy0
    go_wp2
    go_ret3
    exact ⟨none, none, 0, 0, rfl, fun h => absurd h (by simp), fun h => absurd h (by simp), hbel⟩
end Go.Proofs.Ytgeapgbebbapmaa
