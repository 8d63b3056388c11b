/-
  WALK: the law CheckUnused, over what awake answers; no condition but the form's on the lengths.
-/
import Derived.Test.YtgeapgbebbapmaaUnu
import Derived.Test.YtgeapgbebbapmaaLw21b
import Derived.Test.YtgeapgbebbapmaaLw21c5
import Derived.Test.YtgeapgbebbapmaaSzQ
import Derived.Deep.QuietTactic
import Derived.Deep.DeepCutAuto
namespace Go.Proofs.Ytgeapgbebbapmaa
open Go.RowKit

set_option maxRecDepth 100000 in
set_option maxHeartbeats 32000000 in
theorem law_unused (AW : ∀ W : World, Hid (Calls Try.prog 12 #[] W fun e w' => e = .returned (.bool true) ∧ Below W.heap.size W w'))
    (q : Qry) (S M : List Sch) (A R O B B2 : Option Addr) (ch cr co cs cm : Nat) (w : World) (hq : QryIn w q A R O ch cr co) (hs : SchsAt w B S) (hm : SchsAt w B2 M) (hwf : q.wf) (hws : ∀ s ∈ S, s.wf) (hwm : ∀ s ∈ M, s.wf) (hms : S.length ≤ 9223372036854775807) (hmm : M.length ≤ 9223372036854775807) (hsz : ∀ r ∈ q.rules, r.sz) :
    Calls Try.prog 6 #[qryV q A R O ch cr co, .slice B S.length cs, .slice B2 M.length cm] w fun e w' => e = .returned (.bool true) ∧ Below w.heap.size w w' := by
  have HQ := hid hq
  have HS := hid hs
  have HM := hid hm
  have HWF := hid hwf
  have HWS := hid hws
  have HWM := hid hwm
  have HSZ := hid (fun r hr => (hsz r hr).a)
  obtain ⟨⟨e0, ty⟩, hx⟩ : ∃ x, checkT q S = x := ⟨_, rfl⟩
  obtain ⟨bd, hbd⟩ : ∃ x, badB S = x := ⟨_, rfl⟩
  obtain ⟨bm, hbm⟩ : ∃ x, badB M = x := ⟨_, rfl⟩
  have HX := hid hx
  have HBD := hid hbd
  have HBM := hid hbm
  have HFEW : Hid ty.few := hid (by have := checkT_few q S; rw [hx] at this; exact this)
  have C1 := fun W h => hid (law_great5 q A R O ch cr co W h)
  have C2 := fun W h => hid (law_bad S B cs W h hms hbd)
  have C2m := fun W h => hid (law_bad M B2 cm W h hmm hbm)
  have C3 := fun W h1 h2 => hid (chk_check q S A R O B ch cr co cs W h1 h2 hwf hws hms hx)
  have C4 := fun (L : List Sch) (BL : Option Addr) (cl : Nat) W h1 h2 h3 h4 h5 => hid (chk_check q L A R O BL ch cr co cl W h1 h2 hwf h3 h4 (x := (e0, ty)) h5)
  obtain ⟨hHd, hRl, hOr, lh, lr, lo, mh, mr, mo⟩ := hq
  have HRl := hid hRl
  have HRW := hid hwf.rules
  obtain ⟨Y, hY, _, _⟩ := nm q.aggVar
  unfold qryV at C1 C3 C4 ⊢
  simp only [hY] at C1 C3 C4 ⊢
  clear hx hbd hbm hs hm hwf hws hwm hHd hRl hOr hY lh lr lo mh mo hsz
  obtain ⟨hd, ga, av, rs, os⟩ := q
  simp only at *
  have HB0 : Hid (Below (w.heap.size + 1) (w.alloc (.cells #[.slice A hd.length ch, .int .i64 ga, .string Y, .slice R rs.length cr, .slice O os.length co] 26)) (w.alloc (.cells #[.slice A hd.length ch, .int .i64 ga, .string Y, .slice R rs.length cr, .slice O os.length co] 26))) := hid (Below.refl _ _)
  have hb0 := (qry_cells HB0.out).2.2.2.2.2.2
  go_enter Try.func6, Try.ntmps6
  go_wp2_with fail
  refine (C1 _ (HQ.out.below hb0)).out.mono ?_
  rintro e w2 ⟨hsb, b2⟩
  obtain ⟨bg, rfl, hr5⟩ := hsb
  have HR5 := hid hr5
  have HB2 := hid (HB0.out.trans (b2.mono (by simp)))
  clear C1 b2 HB0 hb0 hr5
  obtain ⟨q0, q1, q2, q3, q4, qlt, hbel⟩ := qry_cells HB2.out
  cases bg with
  | true =>
    go_wp2_with fail
    refine (AW _).out.mono ?_
    rintro e w9 ⟨rfl, b9⟩
    have hb9 := hbel.trans (b9.mono hbel.size)
    clear b9
    go_wp2
    go_ret
    exact ⟨rfl, hb9⟩
  | false =>
    go_wp2_with fail
    refine (C2 _ (HS.out.below hbel)).out.mono ?_
    rintro e w3 ⟨rfl, b3⟩
    have HB3 := hid (HB2.out.trans (b3.mono (by have := HB2.out.size; simpa using this)))
    clear C2 b3 HB2 q0 q1 q2 q3 q4 qlt hbel
    obtain ⟨q0, q1, q2, q3, q4, qlt, hbel⟩ := qry_cells HB3.out
    cases bd with
    | true =>
      go_wp2_with fail
      refine (AW _).out.mono ?_
      rintro e w9 ⟨rfl, b9⟩
      have hb9 := hbel.trans (b9.mono hbel.size)
      clear b9
      go_wp2
      go_ret
      exact ⟨rfl, hb9⟩
    | false =>
      go_wp2_with fail
      refine (C2m _ (HM.out.below hbel)).out.mono ?_
      rintro e w4 ⟨rfl, b4⟩
      have HB4 := hid (HB3.out.trans (b4.mono (by have := HB3.out.size; simpa using this)))
      clear C2m b4 HB3 q0 q1 q2 q3 q4 qlt hbel
      obtain ⟨q0, q1, q2, q3, q4, qlt, hbel⟩ := qry_cells HB4.out
      cases bm with
      | true =>
        go_wp2_with fail
        refine (AW _).out.mono ?_
        rintro e w9 ⟨rfl, b9⟩
        have hb9 := hbel.trans (b9.mono hbel.size)
        clear b9
        go_wp2
        go_ret
        exact ⟨rfl, hb9⟩
      | false =>
        have hs8 := badB_len HBD.out
        have hm8 := badB_len HBM.out
        have hr5 := HR5.out (by first | rfl | trivial)
        have hmk := @run_makeMap Try.prog
        have hgw : w.heap.size + 1 ≤ w4.heap.size := by have := HB4.out.size; simpa using this
        have HU0 : Hid (SetAt (w4.alloc (.map #[] 0)) w4.heap.size 0 []) := hid (SetAt.made w4)
        have HB5 := hid (HB4.out.alloc hgw (.map #[] 0))
        clear HB4 q0 q1 q2 q3 q4 qlt hbel
        obtain ⟨q0, q1, q2, q3, q4, qlt, hbel⟩ := qry_cells HB5.out
        go_upto_region 4 with fail
        generalize (w4.alloc (.map #[] 0)) = w5 at *
        generalize w4.heap.size = gU at *
        go_wp2
        clear q0 q1 q2 q3 q4 qlt hbel hmk
        go_loopw [40] (fun i wr => ∃ (j m : Nat), j ≤ rs.length ∧ i = .int .i64 j ∧ m ≤ j * 2932031007402 ∧ Hid (SetAt wr gU m (usedL (rs.take j))) ∧ Hid (Below (w.heap.size + 1) (w.alloc (.cells #[.slice A hd.length ch, .int .i64 ga, .string Y, .slice R rs.length cr, .slice O os.length co] 26)) wr)) (fun i _ => rs.length - (intOf i).toNat)
        case atStart => exact ⟨0, 0, by omega, rfl, by omega, hid HU0.out, HB5⟩
        case round =>
          rename World => wo
          obtain ⟨j, m, hj, rfl, hmj, HU, HB6⟩ := hrel
          clear HB5 HU0
          obtain ⟨q0, q1, q2, q3, q4, qlt, hbel⟩ := qry_cells HB6.out
          have hsz := hbel.size
          by_cases hlt : j < rs.length
          · obtain ⟨bb, o, rfl, hc⟩ := HRl.out (by omega)
            obtain ⟨T, ct, T2, ct2, d0, d1, ha, hcn, _, _, ma, mc⟩ := hc j hlt
            have hwr := HRW.out rs[j] (List.getElem_mem hlt)
            have hlen := HSZ.out rs[j] (List.getElem_mem hlt)
            have hus := usedL_succ hlt
            replace d0 := cell_keep hbel d0
            replace d1 := cell_keep hbel d1
            obtain ⟨ru, er⟩ : ∃ r, rs[j] = r := ⟨_, rfl⟩
            rw [er] at d0 d1 ha ma mc hwr hlen hus
            have HA := hid ha
            have HWR := hid hwr
            have HUS := hid hus
            have HU2 : Hid (SetAt (wo.alloc (.cells #[.slice T ru.atoms.length ct, .slice T2 ru.conds.length ct2] 46)) gU m (usedL (rs.take j) ++ (ru.atoms.take 0).map (·.rel))) := hid (by
              show SetAt _ gU m (usedL (rs.take j) ++ [])
              rw [List.append_nil]
              exact HU.out.alloc _)
            have HB7 := hid (HB6.out.alloc (by have := HB6.out.size; simpa using this) (.cells #[.slice T ru.atoms.length ct, .slice T2 ru.conds.length ct2] 46))
            clear hc er ha hcn hwr hus HU
            go_wp2
            clear q0 q1 q2 q3 q4 qlt d0 d1
            go_loopw [47] (fun i wr => ∃ (k n : Nat), k ≤ ru.atoms.length ∧ i = .int .i64 k ∧ n ≤ m + k ∧ Hid (SetAt wr gU n (usedL (rs.take j) ++ (ru.atoms.take k).map (·.rel))) ∧ Hid (Below (w.heap.size + 1) (w.alloc (.cells #[.slice A hd.length ch, .int .i64 ga, .string Y, .slice (some ⟨bb, o, none⟩) rs.length cr, .slice O os.length co] 26)) wr)) (fun i _ => ru.atoms.length - (intOf i).toNat)
            case atStart => exact ⟨0, m, by omega, rfl, by omega, HU2, HB7⟩
            case round =>
              obtain ⟨k, n, hk, rfl, hn, HU3, HB8⟩ := hrel
              clear HU2 HB7 hbel hsz
              have hbel := (qry_cells HB8.out).2.2.2.2.2.2
              have hsz := hbel.size
              by_cases hlt2 : k < ru.atoms.length
              · obtain ⟨b6, o6, rfl, hc⟩ := HA.out (by omega)
                obtain ⟨T5, c5, d0, d1, d2, _, _, _⟩ := hc k hlt2
                have hwa := (HWR.out.atoms ru.atoms[k] (List.getElem_mem hlt2)).rel
                have hsn : (ru.atoms.take (k + 1)).map (·.rel) = (ru.atoms.take k).map (·.rel) ++ [ru.atoms[k].rel] := by rw [List.take_succ_eq_append_getElem hlt2, List.map_append]; rfl
                replace d0 := cell_keep hbel d0
                replace d1 := cell_keep hbel d1
                replace d2 := cell_keep hbel d2
                obtain ⟨⟨ng, rel, ts⟩, ea⟩ : ∃ a, ru.atoms[k] = a := ⟨_, rfl⟩
                rw [ea] at d0 d1 d2 hwa hsn
                simp only at d0 d1 d2 hwa hsn
                obtain ⟨Z, hZ, hZd, _⟩ := nm rel
                rw [hZ] at d1
                have hZs := maxLen_of hZd hwa
                have HZ := hid hZd
                have HSN := hid hsn
                have HU4 := hid (HU3.out.alloc (.cells #[.bool ng, .string Z, .slice T5 ts.length c5] 51))
                have HB9 := hid (HB8.out.alloc (by have := HB8.out.size; simpa using this) (.cells #[.bool ng, .string Z, .slice T5 ts.length c5] 51))
                clear hc ea hZ hZd hsn
                go_wp2_with (at_mapUpdate; refine wpList_put rfl _ _ _ rfl HU4.out Try.underlying9 Try.underlying59 (by unfold maxLen; omega) rfl Z rfl hZs true rfl EB_true ?_; intro w8 hmap8 hg8)
                rw [HZ.out, setF_put, List.append_assoc, ← HSN.out] at hmap8
                have HM8 := hid hmap8
                have HB10 := hid (HB9.out.grown hg8 (by have := HB9.out.size; simpa using this) (fun i e => by injection e; omega))
                clear hmap8 hg8 HU4 HB9 d0 d1 d2
                go_wp2
                go_roundw
                case rel => exact ⟨k + 1, n + 1, by omega, by go_num, by omega, HM8, HB10⟩
                case measure => simp [intOf]; omega
              · have HN : Hid (SetAt wr gU n (usedL (rs.take (j + 1)))) := hid (by
                  have h1 := HU3.out
                  rw [List.take_of_length_le (l := ru.atoms) (by omega), ← HUS.out] at h1
                  exact h1)
                clear HU3
                go_wp2
                go_roundw
                case rel => exact ⟨j + 1, n, by omega, by go_num, by omega, HN, HB8⟩
                case measure => simp [intOf]; omega
          · have HUse : Hid (SetAt wo gU m (usedL rs)) := hid (by
              have h1 := HU.out
              rw [List.take_of_length_le (l := rs) (by omega)] at h1
              exact h1)
            clear HU
            go_upto_region 13 with fail
            obtain ⟨f0, hf0, hC0, hcell0⟩ := schs_read HS.out
            obtain ⟨i0, hi, hz0, hz1, hz2⟩ := info_parts infoSchA
            have hone0 := flat_one (f := f0) (n := S.length) (fun i hi => (hC0 i hi).one)
            have HF0 := hid hf0
            have HC0 := hid hC0
            have HCL0 := hid hcell0
            have HO0 := hid hone0
            have hgo : gU < wo.heap.size := HUse.out.lt
            have HBW := hid (hbel.trans ((below_one wo (.cells #[] 61)).mono hsz))
            have hnb := heap_alloc_new wo (.cells #[] 61)
            have HNB := hid hnb
            have HUs2 := hid (HUse.out.alloc (.cells #[] 61))
            have HB7 := hid (HB6.out.alloc (by have := HB6.out.size; simpa using this) (.cells #[] 61))
            clear hf0 hC0 hcell0 hone0 hnb HUse HB6 q0 q1 q2 q3 q4 qlt
            go_wp2_with (at_builtin; refine wpList_append_fresh rfl _ _ 27 rfl 61 i0 _ 2 40 Try.underlying27 hi hz0 hz1 hz2 rfl (by decide) _ (gU + 1) rfl HNB.out hgo _ S.length cs _ rfl (flat_range_len HF0.out _) (fun hp => by obtain ⟨ad, e1, e2⟩ := HCL0.out hp; subst e1; obtain ⟨ab, ao, ap⟩ := ad; exact ⟨_, rfl, fun j u hj => add_keep HBW.out (e2 j u hj)⟩) HO0.out (by unfold maxLen; omega) (by omega) ?_; intro v8 w8 hown8 hg8)
            have HV8 := hid hown8
            have HU8 := hid (MapAt.kept HUs2.out hg8 (by simp))
            have HB8 := hid (HB7.out.trans ((below_none hg8).mono (by have := HB7.out.size; simpa using this)))
            clear hown8 hg8 HUs2 HB7 HNB HBW HCL0 hbel hsz hgo
            go_wp2
            go_loopw [61, 12] (fun i v12 wr => ∃ (k : Nat) (L : List Sch) (f : Nat → List Value), k ≤ M.length ∧ i = .int .i64 k ∧ Hid (L = S ++ (M.take k).filter (freeS rs)) ∧ L.length ≤ 8 + k ∧ Hid (∀ i, (f i).length = 2) ∧ Hid (∀ i (hi : i < L.length), SchC w L[i] (f i)) ∧ Hid (wr.ownsRow (gU + 1) 61 2 v12 L.length ((List.range L.length).flatMap f)) ∧ Hid (SetAt wr gU m (usedL rs)) ∧ Hid (Below (w.heap.size + 1) (w.alloc (.cells #[.slice A hd.length ch, .int .i64 ga, .string Y, .slice R rs.length cr, .slice O os.length co] 26)) wr)) (fun i _ _ => M.length - (intOf i).toNat)
            case atStart => exact ⟨0, S, f0, by omega, rfl, hid (by simp), by omega, HF0, HC0, HV8, HU8, HB8⟩
            case round =>
              obtain ⟨k, L, f, hk, rfl, HL, hLn, HF, HC, HV, HU, HB9⟩ := hrel
              clear HF0 HC0 HV8 HU8 HB8 HO0
              obtain ⟨q0, q1, q2, q3, q4, qlt, hbel⟩ := qry_cells HB9.out
              have hsz := hbel.size
              have hgr : gU < wr.heap.size := HU.out.lt
              by_cases hlt3 : k < M.length
              · obtain ⟨bb, o, rfl, hc⟩ := HM.out (by omega)
                obtain ⟨T, ct, d0, d1, hkd, hkc, hkm⟩ := hc k hlt3
                have hwn := (HWM.out M[k] (List.getElem_mem hlt3)).name
                have hon := fun h => filter_on (p := freeS rs) hlt3 h
                have hoff := fun h => filter_off (p := freeS rs) hlt3 h
                have hsc : SchC w M[k] [.string ⟨M[k].name.toArray⟩, .slice T M[k].kinds.length ct] := ⟨T, ct, rfl, hkd, hkc, hkm⟩
                replace d0 := cell_keep hbel d0
                replace d1 := cell_keep hbel d1
                obtain ⟨sk, es⟩ : ∃ s, M[k] = s := ⟨_, rfl⟩
                rw [es] at d0 d1 hwn hon hoff hsc
                obtain ⟨Z, hZ, hZd, _⟩ := nm sk.name
                rw [hZ] at d0 hsc
                have hZs := maxLen_of hZd hwn
                obtain ⟨kn, hkn⟩ : ∃ n, sk.kinds.length = n := ⟨_, rfl⟩
                rw [hkn] at d1 hsc
                have HSC := hid hsc
                have hv : EB.R ((setF (usedL rs) Z.data.toList).getD false) = .bool (decide (sk.name ∈ usedL rs)) := by rw [hZd, setF_get]; rfl
                have HVv := hid hv
                have hb1 := below_one wr (.cells #[.string Z, .slice T kn ct] 61)
                have HU2 := hid (HU.out.alloc (.cells #[.string Z, .slice T kn ct] 61))
                have HV2 := hid (HV.out.alloc (.cells #[.string Z, .slice T kn ct] 61))
                have HB10 := hid (HB9.out.alloc (by have := HB9.out.size; simpa using this) (.cells #[.string Z, .slice T kn ct] 61))
                clear hc es hZ hZd hkn hv hkd hkc hkm hsc HU HV HB9 hb1
                by_cases hin : sk.name ∈ usedL rs
                · have HN : Hid (L = S ++ (M.take (k + 1)).filter (freeS rs)) := hid (by rw [hoff (by unfold freeS; simpa using hin)]; exact HL.out)
                  have HVt : Hid (EB.R ((setF (usedL rs) Z.data.toList).getD false) = .bool true) := hid (by rw [HVv.out, decide_eq_true hin])
                  clear hon hoff HL HVv hin
                  go_wp2_with (at_lookup; refine wpList_look rfl _ _ rfl HU2.out EB_ok Try.underlying9 Try.underlying59 rfl Z rfl hZs (.bool true) HVt.out ?_)
                  go_roundw
                  case rel => exact ⟨k + 1, L, f, by omega, by go_num, HN, by omega, HF, HC, HV2, HU2, HB10⟩
                  case measure => simp [intOf]; omega
                · have HN : Hid (L ++ [sk] = S ++ (M.take (k + 1)).filter (freeS rs)) := hid (by rw [hon (by unfold freeS; simpa using hin), ← List.append_assoc, ← HL.out])
                  have HVt : Hid (EB.R ((setF (usedL rs) Z.data.toList).getD false) = .bool false) := hid (by rw [HVv.out, decide_eq_false hin])
                  clear hon hoff HL HVv hin
                  go_wp2_with (first
                    | (at_lookup; refine wpList_look rfl _ _ rfl HU2.out EB_ok Try.underlying9 Try.underlying59 rfl Z rfl hZs (.bool false) HVt.out ?_)
                    | (at_builtin; refine wpList_append_new2 Try.underlying27 hi hz0 hz1 hz2 rfl (by decide) (by decide) rfl rfl rfl HV2.out rfl (by simp) rfl rfl (by omega) (by simp; omega) ?_; intro v9 w9 hown9 hg9))
                  have HV9 : Hid (w9.ownsRow (gU + 1) 61 2 v9 (L ++ [sk]).length ((List.range (L ++ [sk]).length).flatMap fun i => if i < L.length then f i else [.string Z, .slice T kn ct])) := hid (by
                    rw [List.length_append, List.length_singleton, flat_snoc]; exact hown9)
                  have HU9 := hid (MapAt.kept HU2.out hg9 (fun e => by have := (HV2.out.lt _ e.symm).1; omega))
                  have HB11 := hid (HB10.out.grown hg9 (by have := HB10.out.size; simpa using this) (fun k e => by have := (HV2.out.lt k e).1; omega))
                  have HF2 : Hid (∀ i, (if i < L.length then f i else [.string Z, .slice T kn ct]).length = 2) := hid (fun i => by by_cases h : i < L.length <;> simp [h, HF.out])
                  have HC2 := hid (sch_snoc HC.out HSC.out)
                  clear hown9 hg9 HV2 HU2 HB10
                  go_wp2
                  go_roundw
                  case rel => exact ⟨k + 1, L ++ [sk], _, by omega, by go_num, HN, by simp; omega, HF2, HC2, HV9, HU9, HB11⟩
                  case measure => simp [intOf]; omega
              · have hLe : checkT ⟨hd, ga, av, rs, os⟩ L = (e0, ty) := by
                  have h1 := HL.out
                  rw [List.take_of_length_le (l := M) (by omega)] at h1
                  rw [h1, ← HX.out]
                  exact free_same (q := ⟨hd, ga, av, rs, os⟩)
                have hws : ∀ s ∈ L, s.wf := fun s hs => by
                  have h1 := HL.out
                  rw [h1] at hs
                  rcases List.mem_append.1 hs with hs | hs
                  · exact HWS.out s hs
                  · exact HWM.out s (List.mem_of_mem_take (List.mem_filter.1 hs).1)
                obtain ⟨AL, cL, rfl, hrow, _⟩ := own_rowC (C := SchC) HF.out HV.out (fun i hi => (HC.out i hi).below hbel)
                have HRow := hid (schsC.2 hrow)
                have HLE := hid hLe
                have HWL := hid hws
                clear hLe hws hrow HL HF HC HV HU
                go_wp2_with fail
                refine (C3 _ (HQ.out.below hbel) (HS.out.below hbel)).out.mono ?_
                rintro e w10 ⟨H2, R2, d2, d3, rfl, k2, v2, _, _, b4⟩
                clear C3 q0 q1 q2 q3 q4 qlt
                have hb11 := b4.trans ((below_one w10 (.cells #[.slice H2 ty.head.length d2, .slice R2 ty.rules.length d3] 34)).mono b4.size)
                have HB11 := hid (HB9.out.trans (hb11.mono (by have := HB9.out.size; simpa using this)))
                have K2 := hid (k2.below (below_one w10 (.cells #[.slice H2 ty.head.length d2, .slice R2 ty.rules.length d3] 34)))
                have V2 := hid (v2.below (below_one w10 (.cells #[.slice H2 ty.head.length d2, .slice R2 ty.rules.length d3] 34)))
                have HT11 := hid (heap_alloc_new w10 (.cells #[.slice H2 ty.head.length d2, .slice R2 ty.rules.length d3] 34))
                have HR11 := hid (HRow.out.below hb11)
                clear k2 v2 b4 hb11 HB9 HRow hbel hsz
                go_upto_region 21 with fail
                generalize (w10.alloc (.cells #[.slice H2 ty.head.length d2, .slice R2 ty.rules.length d3] 34)) = w11 at *
                generalize w10.heap.size = g15 at *
                obtain ⟨q0, q1, q2, q3, q4, qlt, hbel⟩ := qry_cells HB11.out
                go_wp2_with fail
                refine (C4 L AL cL _ (HQ.out.below hbel) HR11.out HWL.out (by omega) HLE.out).out.mono ?_
                rintro e w12 ⟨H3, R3, d4, d5, rfl, k3, v3, _, _, b5⟩
                clear C4 q0 q1 q2 q3 q4 qlt
                have hb13 := b5.trans ((below_one w12 (.cells #[.slice H3 ty.head.length d4, .slice R3 ty.rules.length d5] 34)).mono b5.size)
                have HB13 := hid (hbel.trans (hb13.mono hbel.size))
                have K2' := hid (K2.out.below hb13)
                have V2' := hid (V2.out.below hb13)
                have HT11' := hid (res_keep' HT11.out hb13 (lt_of_block HT11.out))
                have K3 := hid (k3.below (below_one w12 (.cells #[.slice H3 ty.head.length d4, .slice R3 ty.rules.length d5] 34)))
                have V3 := hid (v3.below (below_one w12 (.cells #[.slice H3 ty.head.length d4, .slice R3 ty.rules.length d5] 34)))
                have HT13 := hid (heap_alloc_new w12 (.cells #[.slice H3 ty.head.length d4, .slice R3 ty.rules.length d5] 34))
                clear k3 v3 b5 hb13 K2 V2 HT11 HB11 HR11 hbel
                go_upto_region 22 with fail
                generalize (w12.alloc (.cells #[.slice H3 ty.head.length d4, .slice R3 ty.rules.length d5] 34)) = wz at *
                generalize w12.heap.size = g17 at *
                have t1 := cell_of_heap (o := 1) (v := .slice R2 ty.rules.length d3) HT11'.out rfl
                have tl := lt_of_block HT11'.out
                have hrr := HFEW.out.r
                obtain ⟨j0, hj, hy0, hy1, hy2⟩ := info_parts infoVr2
                obtain ⟨l0, hl, hx0, hx1, hx2⟩ := info_parts infoVrs2
                go_wp2
                clear t1 tl
                go_loopw [90, 19] (fun i v19 wr => ∃ (k : Nat) (us : List Value), k ≤ ty.rules.length ∧ us.length ≤ k ∧ k ≤ us.length ∧ i = .int .i64 k ∧ Hid (wr.ownsRow wz.heap.size 63 1 v19 us.length us) ∧ Hid (UsR wr wz.heap.size us ty.rules) ∧ Hid (Below wz.heap.size wz wr)) (fun i _ _ => ty.rules.length - (intOf i).toNat)
                case atStart => exact ⟨0, [], by omega, by simp, by simp, rfl, hid (World.ownsRow_nil _ _ _ _), hid UsR.nil, hid (Below.refl _ _)⟩
                case round =>
                  rename World => wq
                  obtain ⟨k, us, hk, hu1, hu2, rfl, HV, HUS, HBz⟩ := hrel
                  have hbz := HBz.out.size
                  by_cases hlt4 : k < ty.rules.length
                  · obtain ⟨bb, o, rfl, hc⟩ := V2'.out (by omega)
                    obtain ⟨T, ct, d0, hvs, _⟩ := hc k hlt4
                    replace d0 := cell_keep HBz.out d0
                    have hlv := HFEW.out.v ty.rules[k] (List.getElem_mem hlt4)
                    obtain ⟨l, el⟩ : ∃ l, ty.rules[k] = l := ⟨_, rfl⟩
                    rw [el] at d0 hvs hlv
                    have HEL := hid el
                    have HVS := hid (hvs.below HBz.out)
                    have hdl := cell_lt d0
                    clear hc el hvs
                    go_wp2
                    clear d0 hdl
                    go_loopw [96, 22] (fun i v22 wr => ∃ n : Nat, n ≤ l.length ∧ i = .int .i64 n ∧ Hid (wr.ownsRow wq.heap.size 66 2 v22 n (vrC (l.take n))) ∧ Hid (Below wq.heap.size wq wr)) (fun i _ _ => l.length - (intOf i).toNat)
                    case atStart => exact ⟨0, by omega, rfl, hid (World.ownsRow_nil _ _ _ _), hid (Below.refl _ _)⟩
                    case round =>
                      obtain ⟨n, hn, rfl, HV5, HB5⟩ := hrel
                      have hb5 := HB5.out.size
                      by_cases hlt5 : n < l.length
                      · obtain ⟨b6, o6, rfl, hc⟩ := HVS.out (by omega)
                        obtain ⟨g0, g1⟩ := hc n hlt5
                        replace g0 := cell_keep HB5.out g0
                        replace g1 := cell_keep HB5.out g1
                        obtain ⟨⟨vn, vk⟩, ev⟩ : ∃ v, l[n] = v := ⟨_, rfl⟩
                        have hsn : vrC (l.take (n + 1)) = vrC (l.take n) ++ [.string ⟨vn.toArray⟩, .int .i64 vk] := by
                          rw [List.take_succ_eq_append_getElem hlt5, ev, vrC_snoc]
                        rw [ev] at g0 g1
                        simp only at g0 g1
                        obtain ⟨X, hX, _, _⟩ := nm vn
                        rw [hX] at g0 hsn
                        have HSN := hid hsn
                        have HV6 := hid (HV5.out.alloc (.cells #[.string X, .int .i64 vk] 65))
                        have HB6 := hid (HB5.out.alloc hb5 (.cells #[.string X, .int .i64 vk] 65))
                        have hgl := cell_lt g0
                        clear hc ev hX hsn HV5 HB5
                        go_wp2_with (at_builtin; refine wpList_append_new2 Try.underlying63 hj hy0 hy1 hy2 rfl (by decide) (by decide) rfl rfl rfl HV6.out rfl (by simp) rfl rfl (by omega) (by simp; omega) ?_; intro v9 w9 hown9 hg9)
                        rw [← HSN.out] at hown9
                        have HV9 := hid hown9
                        have HB9 := hid (HB6.out.grown hg9 (by simp; omega) (fun k e => (HV6.out.lt k e).1))
                        clear hown9 hg9 HV6 HB6 g0 g1 hgl
                        go_wp2
                        go_roundw
                        case rel => exact ⟨n + 1, by omega, by go_num, HV9, HB9⟩
                        case measure => simp [intOf]; omega
                      · have HV7 : Hid (wr.ownsRow wq.heap.size 66 2 u22 l.length (vrC l)) := hid (by
                          have h1 := HV5.out
                          rw [List.take_of_length_le (by omega), show n = l.length by omega] at h1
                          exact h1)
                        obtain ⟨T7, c7, hT7, _, _⟩ := own_vars HV7.out
                        subst hT7
                        have HVq := hid (own_belowS HV.out HB5.out)
                        have HUSq := hid (HUS.out.below HB5.out)
                        have HBq := hid (HBz.out.trans (HB5.out.mono hbz))
                        clear HV5 HB5
                        go_wp2_with (at_builtin; refine wpList_append_new2 Try.underlying38 hl hx0 hx1 hx2 rfl (by decide) (by decide) rfl rfl rfl HVq.out rfl rfl rfl rfl (by omega) (by omega) ?_; intro v9 w9 hown9 hg9)
                        have hV9 := HV7.out.kept hg9 (own_apart HV7.out HVq.out (by decide))
                        have HUS9 := hid ((HUSq.out.kept HVq.out (by decide) hg9).snoc2 (u := .slice T7 l.length c7) (show us.length = k by omega) hlt4 HEL.out (own_mono hV9 hbz))
                        have HV9 : Hid (w9.ownsRow wz.heap.size 63 1 v9 (us ++ [Value.slice T7 l.length c7]).length (us ++ [Value.slice T7 l.length c7])) := hid (by
                          rw [List.length_append, List.length_singleton]; exact hown9)
                        have HB9 := hid (HBq.out.grown hg9 HBq.out.size (fun k e => (HVq.out.lt k e).1))
                        clear hown9 hg9 hV9 HVq HUSq HBq HV7
                        go_wp2
                        go_roundw
                        case rel => exact ⟨k + 1, us ++ [Value.slice T7 l.length c7], by omega, by simp; omega, by simp; omega, by go_num, HV9, HUS9, HB9⟩
                        case measure => simp [intOf]; omega
                  · obtain ⟨A9, c9, rfl, hvs, _⟩ := HUS.out.at (by omega) HV.out
                    have t10 := cell_of_heap (o := 0) (v := .slice H2 ty.head.length d2) (res_keep' HT11'.out HBz.out (lt_of_block HT11'.out)) rfl
                    have t17 := res_keep' HT13.out HBz.out (lt_of_block HT13.out)
                    have t30 := cell_of_heap (o := 0) (v := .slice H3 ty.head.length d4) t17 rfl
                    have t31 := cell_of_heap (o := 1) (v := .slice R3 ty.rules.length d5) t17 rfl
                    have l10 := cell_lt t10
                    have l17 := lt_of_block t17
                    have C6 := hid (law_same ty.head ty.head ty.rules ty.rules H3 R3 H2 A9 d4 d5 d2 c9 wq (K3.out.below HBz.out) (V3.out.below HBz.out) (K2'.out.below HBz.out) hvs HFEW.out.h HFEW.out.r HFEW.out.h HFEW.out.r HFEW.out.v HFEW.out.v (b := true) (by simp))
                    have hbk := HB13.out.trans (HBz.out.mono HB13.out.size)
                    clear t17 hvs HV HUS
                    go_wp2_with fail
                    refine C6.out.mono ?_
                    rintro e w14 ⟨rfl, b6⟩
                    have hbk2 := hbk.trans (b6.mono hbk.size)
                    clear C6 b6 t10 t30 t31 l10 l17 hbk

                    go_wp2_with fail
                    refine (AW _).out.mono ?_
                    rintro e w9 ⟨rfl, b9⟩
                    have hb9 := hbk2.trans (b9.mono hbk2.size)
                    clear b9
                    go_wp2
                    go_ret
                    exact ⟨rfl, hb9⟩
end Go.Proofs.Ytgeapgbebbapmaa
