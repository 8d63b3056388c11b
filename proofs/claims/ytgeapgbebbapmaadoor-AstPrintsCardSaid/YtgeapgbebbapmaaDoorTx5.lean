/-
  WALK: the document's Text (layer 19).
-/
import Derived.Test.YtgeapgbebbapmaaDoorTx4
namespace Go.Proofs.YtgeapgbebbapmaaDoor
open Go.RowKit

/-- What can be printed, with what the document's Text asks besides. -/
structure TxtOk (q : Qry) : Prop where
  ok : QryOk q
  ga : 0 ≤ q.agg ∧ q.agg ≤ 4
  ne : ∀ r ∈ q.rules, r.atoms ≠ []
  op : ∀ r ∈ q.rules, ∀ c ∈ r.conds, 0 ≤ c.op ∧ c.op ≤ 5
theorem txt_ok {q : Qry} (h : checkQ q = 0) (hw : q.wf) : TxtOk q := by
  have hok := qry_ok h hw
  unfold checkQ at h
  split at h
  · exact absurd h (by decide)
  split at h
  · exact absurd h (by decide)
  split at h
  · exact absurd h (by assumption)
  split at h
  · exact absurd h (by assumption)
  rename_i h4
  split at h
  · exact absurd h (by assumption)
  rename_i h5
  have h4 : aggE q = 0 := by simpa using h4
  have h5 : firstE (ruleE q) q.rules = 0 := by simpa using h5
  have hit : ∀ r ∈ q.rules, itemsE r = 0 := fun r hr => ruleE_items (firstE_zero h5 r hr)
  refine ⟨hok, ?_, fun r hr => ?_, fun r hr c hc => ?_⟩
  · unfold aggE at h4
    split at h4
    · omega
    split at h4
    · omega
    · exact absurd h4 (by decide)
  · have := hit r hr
    unfold itemsE at this
    split at this
    · exact absurd this (by decide)
    · assumption
  · have := hit r hr
    unfold itemsE at this
    split at this
    · exact absurd this (by decide)
    split at this
    · exact absurd this (by decide)
    split at this
    · have h9 := firstE_zero this c hc
      unfold condE at h9
      split at h9
      · exact absurd h9 (by decide)
      split at h9
      · exact absurd h9 (by decide)
      · omega
    · exact absurd this (by assumption)
theorem keyS_len {k : Ky} (h : KyOk k) : (keyS k).length ≤ 21 := by
  unfold KyOk at h
  unfold keyS
  rw [List.length_append]
  split <;> simp <;> omega

set_option maxRecDepth 100000 in
set_option maxHeartbeats 16000000 in
theorem ref_text19 (q : Qry) (A R O : Option Addr) (ch cr co : Nat) (w : World) (hq : QryIn w q A R O ch cr co) (hok : TxtOk q) {x : Str} (hx : textQ q = x) :
    Calls Tryd.prog 14 #[qryV q A R O ch cr co] w fun e w' => e = .returned (.string ⟨x.toArray⟩) ∧ Below w.heap.size w w' := by
  obtain ⟨hq0, hga, hne, hop⟩ := hok
  obtain ⟨⟨hk1, hk2, hk3⟩, hl3, hrk, hl6, hok6⟩ := hq0
  obtain ⟨jx, ejx⟩ : ∃ s, joinS comS q.head = s := ⟨_, rfl⟩
  have hjx : jx.length ≤ 108 := by
    have h1 := join_le comS 16 q.head hk2
    have hc : comS.length = 2 := rfl
    rw [ejx, hc] at h1
    omega
  have HH := hid hq.head
  have HR := hid hq.rules
  have HO := hid hq.order
  have mr := hq.mr
  have mo := hq.mo
  have HK2 := hid hk2
  have HRK := hid hrk
  have HNE := hid hne
  have HOP := hid hop
  have HK6 := hid hok6
  have HX : Hid ((([97, 110, 115, 40] ++ jx) ++ aggS q ++ [41, 32, 58, 45, 32]) ++ joinS barS (q.rules.map ruleS) ++ orderS q.order = x) := hid (by rw [← hx]; unfold textQ headS; rw [ejx])
  have HJX := hid ejx
  obtain ⟨Y, hY, hYd⟩ : ∃ Y : ByteArray, (⟨q.aggVar.toArray⟩ : ByteArray) = Y ∧ Y.data.toList = q.aggVar := ⟨_, rfl, rfl⟩
  have hYb : Y.size ≤ 16 := by
    have h1 : Y.size = q.aggVar.length := by rw [← hYd]; simp
    omega
  unfold qryV
  rw [hY]
  have HYd := hid hYd
  obtain ⟨i0, hi, hz0, hz1, hz2⟩ := info_parts infoStr
  clear hx hq hk2 hrk hne hop hok6 ejx hY hYd hk3
  obtain ⟨hd, ga, av, rs, os⟩ := q
  simp only at HX HH HR HO mr mo HK2 HRK HNE HOP HK6 HYd HJX hk1 hl3 hl6 hga ⊢
  have CJ := fun W h => hid (ref_join A ch hd ⟨#[44, 32]⟩ W h (by omega) (fun v hv => Nat.le_trans (HK2.out v hv) (by decide)) (s := comS) rfl (by decide) HJX.out)
  obtain ⟨J, hJ, hJd⟩ : ∃ Y : ByteArray, (⟨jx.toArray⟩ : ByteArray) = Y ∧ Y.data.toList = jx := ⟨_, rfl, rfl⟩
  have hJb : J.size ≤ 108 := by
    have h1 : J.size = jx.length := by rw [← hJd]; simp
    omega
  rw [hJ] at CJ
  have HJd := hid hJd
  have HB0 : Hid (Below (w.heap.size + 1) (w.alloc (.cells #[.slice A hd.length ch, .int .i64 ga, .string Y, .slice R rs.length cr, .slice O os.length co] 26)) (w.alloc (.cells #[.slice A hd.length ch, .int .i64 ga, .string Y, .slice R rs.length cr, .slice O os.length co] 26))) := hid (Below.refl _ _)
  obtain ⟨_, _, _, _, _, _, hb0⟩ := qry_cells HB0.out
  clear hJ hJd HJX HK2 hjx
  go_enter Tryd.func14, Tryd.ntmps14
  go_wp2_with fail
  refine (CJ _ (HH.out.below hb0)).out.mono ?_
  rintro e w1 ⟨rfl, b1⟩
  have HB1 := hid (HB0.out.trans (b1.mono (by simp)))
  clear CJ b1 HB0 hb0
  obtain ⟨q0, q1, q2, q3, q4, qlt, hbel⟩ := qry_cells HB1.out
  have hways : ga = 0 ∨ ga = 1 ∨ ga = 2 ∨ ga = 3 ∨ ga = 4 := by omega
  obtain ⟨H1, eH1⟩ : ∃ h, ([97, 110, 115, 40] ++ jx) ++ aggS ⟨hd, ga, av, rs, os⟩ = h := ⟨_, rfl⟩
  rw [eH1] at HX
  have EH1 := hid eH1
  clear eH1 hga
  rcases hways with rfl | rfl | rfl | rfl | rfl
  · have HS1 : Hid ((⟨#[97, 110, 115, 40]⟩ ++ J : ByteArray).data.toList = H1) := hid (by
      have e := EH1.out
      unfold aggS at e; simp only [List.append_nil, (by decide : ¬ (0 : Int) = 1), (by decide : ¬ (0 : Int) = 2), (by decide : ¬ (0 : Int) = 3), (by decide : ¬ (0 : Int) = 4), if_false] at e
      rw [← e]
      exact cat_of rfl HJd.out)
    have hS1 : (⟨#[97, 110, 115, 40]⟩ ++ J : ByteArray).size ≤ 150 := by
      simp only [ByteArray.size_append]
      show 4 + J.size ≤ _; omega
    clear EH1 HJd
    go_wp2
    generalize (⟨#[97, 110, 115, 40]⟩ ++ J : ByteArray) = S1 at *
    clear q0 q1 q2 q3 q4 qlt hbel
    have HO0 : Hid (w1.ownsRow (w.heap.size + 1) 9 1 (.slice none 0 0) ((rs.take 0).map ruleS).length (((rs.take 0).map ruleS).map nmV)) := hid (World.ownsRow_nil _ _ _ _)
    go_loopw [5, 4] (fun i u wr => ∃ (k : Nat) (AO : Option Addr) (cO : Nat), k ≤ rs.length ∧ i = .int .i64 k ∧ u = .slice AO k cO ∧ Hid (wr.ownsRow (w.heap.size + 1) 9 1 (.slice AO k cO) ((rs.take k).map ruleS).length (((rs.take k).map ruleS).map nmV)) ∧ Hid (Below (w.heap.size + 1) _ wr)) (fun i _ _ => rs.length - (intOf i).toNat)
    case atStart => exact ⟨0, none, 0, by omega, rfl, rfl, HO0, HB1⟩
    case round =>
      clear HO0 HB1
      obtain ⟨k, AO, cO, hk, rfl, rfl, HOW, HB⟩ := hrel
      obtain ⟨q0, q1, q2, q3, q4, qlt, hbel⟩ := qry_cells HB.out
      have hlj : k ≤ rs.length → ((rs.take k).map ruleS).length = k := fun h => by simp only [List.length_map, List.length_take]; omega
      by_cases hlt : k < rs.length
      · obtain ⟨br, o, rfl, hc⟩ := HR.out (by omega)
        obtain ⟨TA, ca, TC, cc, c0, c1, hra, hrc, _⟩ := hc k hlt
        replace c0 := cell_keep hbel c0
        replace c1 := cell_keep hbel c1
        have hrk := HRK.out _ (List.getElem_mem hlt)
        have hne := HNE.out _ (List.getElem_mem hlt)
        have hop := HOP.out _ (List.getElem_mem hlt)
        have hPk : (rs.take (k + 1)).map ruleS = (rs.take k).map ruleS ++ [ruleS rs[k]] := by rw [List.take_succ_eq_append_getElem hlt, List.map_append]; rfl
        obtain ⟨r, er⟩ : ∃ r, rs[k] = r := ⟨_, rfl⟩
        rw [er] at c0 c1 hra hrc hrk hne hop hPk
        have CT := hid (ref_ruleText r TA TC ca cc wr (hra.below hbel) (hrc.below hbel) hrk hne hop rfl)
        obtain ⟨na, ena⟩ : ∃ n, r.atoms.length = n := ⟨_, rfl⟩
        obtain ⟨nc, enc⟩ : ∃ n, r.conds.length = n := ⟨_, rfl⟩
        rw [ena] at c0 CT
        rw [enc] at c1 CT
        obtain ⟨tx, etx⟩ : ∃ t, ruleS r = t := ⟨_, rfl⟩
        rw [etx] at CT hPk
        have HPk := hid hPk
        rw [hlj hk] at HOW
        clear hc er hra hrc hrk hne hop hPk ena enc etx hlj
        go_wp2_with fail
        refine CT.out.mono ?_
        rintro e w2 ⟨rfl, b2⟩
        have HB2 := hid (HB.out.trans (b2.mono (by omega)))
        have HO2 := hid (own_below HOW.out b2)
        have hs2 : w.heap.size + 1 ≤ w2.heap.size := Nat.le_trans (by omega) b2.size
        clear CT b2 HB HOW q0 q1 q2 q3 q4 qlt hbel c0 c1
        go_wp2_with (at_builtin; refine wpList_append_new2 Tryd.underlying22 hi hz0 hz1 hz2 rfl (by decide) (by decide) rfl rfl rfl HO2.out rfl (by simp) rfl rfl (by omega) hs2 ?_; intro v3 w3 hown3 hg3; obtain ⟨g3, cap3, rfl⟩ := own_slice1 hown3)
        have hl1 : ((rs.take (k + 1)).map ruleS).length = k + 1 := by simp only [List.length_map, List.length_take]; omega
        have HO3 : Hid (w3.ownsRow (w.heap.size + 1) 9 1 (.slice (some ⟨g3, 0, none⟩) (k + 1) cap3) ((rs.take (k + 1)).map ruleS).length (((rs.take (k + 1)).map ruleS).map nmV)) := hid (by
          rw [hl1, HPk.out, List.map_append, List.map_singleton]
          exact hown3)
        have HB3 := hid (HB2.out.trans (grown_below HO2.out hg3 hs2))
        clear HO2 HB2 hown3 hg3 HPk hl1
        go_roundw
        case rel => exact ⟨k + 1, _, _, by omega, by go_num, rfl, HO3, HB3⟩
        case measure => simp [intOf]; omega
      · have hend : k = rs.length := by omega
        subst hend
        have hO := HOW.out
        rw [List.take_length] at hO
        have hml : (rs.map ruleS).length = rs.length := List.length_map ..
        obtain ⟨_, _, hu, hAT, _⟩ := own_names hO
        rw [hml] at hu
        injection hu with e1 _ e3
        subst e1 e3
        have CJ2 := fun W h => hid (ref_join AO cO (rs.map ruleS) ⟨#[32, 124, 32]⟩ W h (by rw [hml]; omega) (fun v hv => by
          obtain ⟨r, hr, rfl⟩ := List.mem_map.1 hv
          exact Nat.le_trans (ruleS_len (HRK.out r hr)) (by decide)) (s := barS) rfl (by decide) rfl)
        have hjl := join_le barS 7000 (rs.map ruleS) fun v hv => by
          obtain ⟨r, hr, rfl⟩ := List.mem_map.1 hv
          exact ruleS_len (HRK.out r hr)
        rw [hml] at CJ2 hjl
        obtain ⟨jr, ejr⟩ : ∃ s, joinS barS (rs.map ruleS) = s := ⟨_, rfl⟩
        rw [ejr] at CJ2 hjl HX
        have hjl2 : jr.length ≤ 21009 := by
          have hc : barS.length = 3 := rfl
          rw [hc] at hjl
          omega
        obtain ⟨JR, hJR, hJRd⟩ : ∃ Y : ByteArray, (⟨jr.toArray⟩ : ByteArray) = Y ∧ Y.data.toList = jr := ⟨_, rfl, rfl⟩
        have hJRb : JR.size ≤ 21009 := by
          have h1 : JR.size = jr.length := by rw [← hJRd]; simp
          omega
        rw [hJR] at CJ2
        have HAT := hid hAT
        have HS2 : Hid ((S1 ++ ⟨#[41, 32, 58, 45, 32]⟩ ++ JR : ByteArray).data.toList = (H1 ++ [41, 32, 58, 45, 32]) ++ jr) := hid (cat_of (cat_of HS1.out rfl) hJRd)
        have hS2 : (S1 ++ ⟨#[41, 32, 58, 45, 32]⟩ ++ JR : ByteArray).size ≤ 21500 := by
          simp only [ByteArray.size_append]
          show S1.size + 5 + JR.size ≤ _
          omega
        obtain ⟨H2, eH2⟩ : ∃ h, (H1 ++ [41, 32, 58, 45, 32]) ++ jr = h := ⟨_, rfl⟩
        rw [eH2] at HX HS2
        clear hO hml hAT hjl ejr hJR hJRd hjl2 HOW eH2 hlj HRK HNE HOP
        go_wp2_with fail
        refine (CJ2 _ HAT.out).out.mono ?_
        rintro e w4 ⟨rfl, b4⟩
        have HB4 := hid (HB.out.trans (b4.mono (by omega)))
        clear CJ2 HAT b4 HB q0 q1 q2 q3 q4 qlt hbel
        go_wp2
        generalize (S1 ++ ⟨#[41, 32, 58, 45, 32]⟩ ++ JR : ByteArray) = S2 at *
        have HO0 : Hid (w4.ownsRow (w.heap.size + 1) 9 1 (.slice none 0 0) ((os.take 0).map keyS).length (((os.take 0).map keyS).map nmV)) := hid (World.ownsRow_nil _ _ _ _)
        go_loopw [7, 6] (fun i u wr => ∃ (k : Nat) (AO : Option Addr) (cO : Nat), k ≤ os.length ∧ i = .int .i64 k ∧ u = .slice AO k cO ∧ Hid (wr.ownsRow (w.heap.size + 1) 9 1 (.slice AO k cO) ((os.take k).map keyS).length (((os.take k).map keyS).map nmV)) ∧ Hid (Below (w.heap.size + 1) _ wr)) (fun i _ _ => os.length - (intOf i).toNat)
        case atStart => exact ⟨0, none, 0, by omega, rfl, rfl, HO0, HB4⟩
        case round =>
          clear HO0 HB4
          obtain ⟨k, AO, cO, hk, rfl, rfl, HOW, HB⟩ := hrel
          obtain ⟨q0, q1, q2, q3, q4, qlt, hbel⟩ := qry_cells HB.out
          by_cases hlt : k < os.length
          · obtain ⟨bk, o, rfl, hc⟩ := HO.out (by omega)
            obtain ⟨c0, c1⟩ := hc k hlt
            replace c0 := cell_keep hbel c0
            replace c1 := cell_keep hbel c1
            have hkk := HK6.out _ (List.getElem_mem hlt)
            have hPk : (os.take (k + 1)).map keyS = (os.take k).map keyS ++ [keyS os[k]] := by rw [List.take_succ_eq_append_getElem hlt, List.map_append]; rfl
            have hlj : ((os.take k).map keyS).length = k := by simp only [List.length_map, List.length_take]; omega
            obtain ⟨⟨kv, kd⟩, ek⟩ : ∃ r, os[k] = r := ⟨_, rfl⟩
            rw [ek] at c0 c1 hkk hPk
            unfold KyOk at hkk
            simp only at c0 c1 hkk
            obtain ⟨Z, hZ, hZd⟩ : ∃ Y : ByteArray, (⟨kv.toArray⟩ : ByteArray) = Y ∧ Y.data.toList = kv := ⟨_, rfl, rfl⟩
            have hZb : Z.size ≤ 16 := by
              have h1 : Z.size = kv.length := by rw [← hZd]; simp
              omega
            rw [hZ] at c0
            have HZd := hid hZd
            have HPk := hid hPk
            rw [hlj] at HOW
            have hl1 : ((os.take (k + 1)).map keyS).length = k + 1 := by simp only [List.length_map, List.length_take]; omega
            have hsz : w.heap.size + 1 ≤ wr.heap.size := by omega
            clear hc ek hkk hPk hZ hZd hlj
            cases kd
            · have HTS : Hid (Value.string Z = nmV (keyS ⟨kv, false⟩)) := hid (by
                have e : keyS ⟨kv, false⟩ = kv := by unfold keyS; simp
                rw [e]
                exact str_of HZd.out)
              go_wp2_with (at_builtin; refine wpList_append_new2 Tryd.underlying22 hi hz0 hz1 hz2 rfl (by decide) (by decide) rfl rfl rfl HOW.out rfl (by simp) rfl rfl (by omega) hsz ?_; intro v3 w3 hown3 hg3; obtain ⟨g3, cap3, rfl⟩ := own_slice1 hown3)
              have HO3 : Hid (w3.ownsRow (w.heap.size + 1) 9 1 (.slice (some ⟨g3, 0, none⟩) (k + 1) cap3) ((os.take (k + 1)).map keyS).length (((os.take (k + 1)).map keyS).map nmV)) := hid (by
                rw [hl1, HPk.out, List.map_append, List.map_singleton, ← HTS.out]
                exact hown3)
              have HB3 := hid (HB.out.trans (grown_below HOW.out hg3 hsz))
              clear HOW HB hown3 hg3 HPk hl1 HTS q0 q1 q2 q3 q4 qlt hbel c0 c1 HZd
              go_roundw
              case rel => exact ⟨k + 1, _, _, by omega, by go_num, rfl, HO3, HB3⟩
              case measure => simp [intOf]; omega
            · have HTS : Hid (Value.string (Z ++ ⟨#[32, 100, 101, 115, 99]⟩) = nmV (keyS ⟨kv, true⟩)) := hid (by
                have e : keyS ⟨kv, true⟩ = kv ++ [32, 100, 101, 115, 99] := by unfold keyS; simp
                rw [e]
                exact str_of (cat_of HZd.out rfl))
              go_wp2_with (at_builtin; refine wpList_append_new2 Tryd.underlying22 hi hz0 hz1 hz2 rfl (by decide) (by decide) rfl rfl rfl HOW.out rfl (by simp) rfl rfl (by omega) hsz ?_; intro v3 w3 hown3 hg3; obtain ⟨g3, cap3, rfl⟩ := own_slice1 hown3)
              have HO3 : Hid (w3.ownsRow (w.heap.size + 1) 9 1 (.slice (some ⟨g3, 0, none⟩) (k + 1) cap3) ((os.take (k + 1)).map keyS).length (((os.take (k + 1)).map keyS).map nmV)) := hid (by
                rw [hl1, HPk.out, List.map_append, List.map_singleton, ← HTS.out]
                exact hown3)
              have HB3 := hid (HB.out.trans (grown_below HOW.out hg3 hsz))
              clear HOW HB hown3 hg3 HPk hl1 HTS q0 q1 q2 q3 q4 qlt hbel c0 c1 HZd
              go_roundw
              case rel => exact ⟨k + 1, _, _, by omega, by go_num, rfl, HO3, HB3⟩
              case measure => simp [intOf]; omega
          · have hend : k = os.length := by omega
            subst hend
            by_cases hos : os.length = 0
            · have hos2 : os = [] := List.length_eq_zero_iff.1 hos
              have HXe : Hid (H2 = x) := hid (by
                have e := HX.out
                rw [hos2] at e
                unfold orderS at e
                simpa using e)
              have hln : ¬ 0 < os.length := by omega
              have hbb := hbel
              have hsx : S2 = ⟨x.toArray⟩ := by
                have h1 := HS2.out
                rw [HXe.out] at h1
                rw [← h1]
              have HSX := hid hsx
              clear HX HS2 HXe hos2 HOW HB hsx
              go_wp2
              go_ret
              exact ⟨congrArg (fun a => Ending.returned (.string a)) HSX.out, hbb⟩
            · have hos2 : os ≠ [] := fun e => hos (by rw [e]; rfl)
              have hO := HOW.out
              rw [List.take_length] at hO
              have hml : (os.map keyS).length = os.length := List.length_map ..
              obtain ⟨_, _, hu, hAT, _⟩ := own_names hO
              rw [hml] at hu
              injection hu with e1 _ e3
              subst e1 e3
              have CJ3 := fun W h => hid (ref_join AO cO (os.map keyS) ⟨#[44, 32]⟩ W h (by rw [hml]; omega) (fun v hv => by
                obtain ⟨r, hr, rfl⟩ := List.mem_map.1 hv
                exact Nat.le_trans (keyS_len (HK6.out r hr)) (by decide)) (s := comS) rfl (by decide) rfl)
              have hjl := join_le comS 21 (os.map keyS) fun v hv => by
                obtain ⟨r, hr, rfl⟩ := List.mem_map.1 hv
                exact keyS_len (HK6.out r hr)
              rw [hml] at CJ3 hjl
              obtain ⟨jo, ejo⟩ : ∃ s, joinS comS (os.map keyS) = s := ⟨_, rfl⟩
              have HXe : Hid ((H2 ++ [32, 111, 114, 100, 101, 114, 32]) ++ jo = x) := hid (by
                have e := HX.out
                unfold orderS at e
                rw [if_neg hos2, ejo] at e
                rw [← e, List.append_assoc])
              rw [ejo] at CJ3 hjl
              have hjl2 : jo.length ≤ 138 := by
                have hc : comS.length = 2 := rfl
                rw [hc] at hjl
                omega
              obtain ⟨JO, hJO, hJOd⟩ : ∃ Y : ByteArray, (⟨jo.toArray⟩ : ByteArray) = Y ∧ Y.data.toList = jo := ⟨_, rfl, rfl⟩
              have hJOb : JO.size ≤ 138 := by
                have h1 : JO.size = jo.length := by rw [← hJOd]; simp
                omega
              rw [hJO] at CJ3
              have HAT := hid hAT
              have HTS : Hid (Value.string (S2 ++ ⟨#[32, 111, 114, 100, 101, 114, 32]⟩ ++ JO) = .string ⟨x.toArray⟩) := hid (by
                rw [← HXe.out]
                exact str_of (cat_of (cat_of HS2.out rfl) hJOd))
              have hpos : 0 < os.length := by omega
              have HDB := hid hbel
              clear HX HS2 HXe hos2 hO hml hAT hjl ejo hjl2 hJO hJOd HOW
              go_wp2_with fail
              refine (CJ3 _ HAT.out).out.mono ?_
              rintro e w9 ⟨rfl, b9⟩
              have hbb := HDB.out.trans (b9.mono HDB.out.size)
              clear CJ3 HAT b9 HDB HB q0 q1 q2 q3 q4 qlt hbel
              go_wp2
              go_ret
              exact ⟨congrArg Ending.returned HTS.out, hbb⟩
  · have HS1 : Hid ((⟨#[97, 110, 115, 40]⟩ ++ J ++ ⟨#[59, 32, 99, 111, 117, 110, 116]⟩ : ByteArray).data.toList = H1) := hid (by
      have e := EH1.out
      unfold aggS at e; simp only [if_true] at e
      rw [← e]
      exact cat_of (cat_of rfl HJd.out) rfl)
    have hS1 : (⟨#[97, 110, 115, 40]⟩ ++ J ++ ⟨#[59, 32, 99, 111, 117, 110, 116]⟩ : ByteArray).size ≤ 150 := by
      simp only [ByteArray.size_append]
      show 4 + J.size + 7 ≤ _; omega
    clear EH1 HJd
    go_wp2
    generalize (⟨#[97, 110, 115, 40]⟩ ++ J ++ ⟨#[59, 32, 99, 111, 117, 110, 116]⟩ : ByteArray) = S1 at *
    clear q0 q1 q2 q3 q4 qlt hbel
    have HO0 : Hid (w1.ownsRow (w.heap.size + 1) 9 1 (.slice none 0 0) ((rs.take 0).map ruleS).length (((rs.take 0).map ruleS).map nmV)) := hid (World.ownsRow_nil _ _ _ _)
    go_loopw [5, 4] (fun i u wr => ∃ (k : Nat) (AO : Option Addr) (cO : Nat), k ≤ rs.length ∧ i = .int .i64 k ∧ u = .slice AO k cO ∧ Hid (wr.ownsRow (w.heap.size + 1) 9 1 (.slice AO k cO) ((rs.take k).map ruleS).length (((rs.take k).map ruleS).map nmV)) ∧ Hid (Below (w.heap.size + 1) _ wr)) (fun i _ _ => rs.length - (intOf i).toNat)
    case atStart => exact ⟨0, none, 0, by omega, rfl, rfl, HO0, HB1⟩
    case round =>
      clear HO0 HB1
      obtain ⟨k, AO, cO, hk, rfl, rfl, HOW, HB⟩ := hrel
      obtain ⟨q0, q1, q2, q3, q4, qlt, hbel⟩ := qry_cells HB.out
      have hlj : k ≤ rs.length → ((rs.take k).map ruleS).length = k := fun h => by simp only [List.length_map, List.length_take]; omega
      by_cases hlt : k < rs.length
      · obtain ⟨br, o, rfl, hc⟩ := HR.out (by omega)
        obtain ⟨TA, ca, TC, cc, c0, c1, hra, hrc, _⟩ := hc k hlt
        replace c0 := cell_keep hbel c0
        replace c1 := cell_keep hbel c1
        have hrk := HRK.out _ (List.getElem_mem hlt)
        have hne := HNE.out _ (List.getElem_mem hlt)
        have hop := HOP.out _ (List.getElem_mem hlt)
        have hPk : (rs.take (k + 1)).map ruleS = (rs.take k).map ruleS ++ [ruleS rs[k]] := by rw [List.take_succ_eq_append_getElem hlt, List.map_append]; rfl
        obtain ⟨r, er⟩ : ∃ r, rs[k] = r := ⟨_, rfl⟩
        rw [er] at c0 c1 hra hrc hrk hne hop hPk
        have CT := hid (ref_ruleText r TA TC ca cc wr (hra.below hbel) (hrc.below hbel) hrk hne hop rfl)
        obtain ⟨na, ena⟩ : ∃ n, r.atoms.length = n := ⟨_, rfl⟩
        obtain ⟨nc, enc⟩ : ∃ n, r.conds.length = n := ⟨_, rfl⟩
        rw [ena] at c0 CT
        rw [enc] at c1 CT
        obtain ⟨tx, etx⟩ : ∃ t, ruleS r = t := ⟨_, rfl⟩
        rw [etx] at CT hPk
        have HPk := hid hPk
        rw [hlj hk] at HOW
        clear hc er hra hrc hrk hne hop hPk ena enc etx hlj
        go_wp2_with fail
        refine CT.out.mono ?_
        rintro e w2 ⟨rfl, b2⟩
        have HB2 := hid (HB.out.trans (b2.mono (by omega)))
        have HO2 := hid (own_below HOW.out b2)
        have hs2 : w.heap.size + 1 ≤ w2.heap.size := Nat.le_trans (by omega) b2.size
        clear CT b2 HB HOW q0 q1 q2 q3 q4 qlt hbel c0 c1
        go_wp2_with (at_builtin; refine wpList_append_new2 Tryd.underlying22 hi hz0 hz1 hz2 rfl (by decide) (by decide) rfl rfl rfl HO2.out rfl (by simp) rfl rfl (by omega) hs2 ?_; intro v3 w3 hown3 hg3; obtain ⟨g3, cap3, rfl⟩ := own_slice1 hown3)
        have hl1 : ((rs.take (k + 1)).map ruleS).length = k + 1 := by simp only [List.length_map, List.length_take]; omega
        have HO3 : Hid (w3.ownsRow (w.heap.size + 1) 9 1 (.slice (some ⟨g3, 0, none⟩) (k + 1) cap3) ((rs.take (k + 1)).map ruleS).length (((rs.take (k + 1)).map ruleS).map nmV)) := hid (by
          rw [hl1, HPk.out, List.map_append, List.map_singleton]
          exact hown3)
        have HB3 := hid (HB2.out.trans (grown_below HO2.out hg3 hs2))
        clear HO2 HB2 hown3 hg3 HPk hl1
        go_roundw
        case rel => exact ⟨k + 1, _, _, by omega, by go_num, rfl, HO3, HB3⟩
        case measure => simp [intOf]; omega
      · have hend : k = rs.length := by omega
        subst hend
        have hO := HOW.out
        rw [List.take_length] at hO
        have hml : (rs.map ruleS).length = rs.length := List.length_map ..
        obtain ⟨_, _, hu, hAT, _⟩ := own_names hO
        rw [hml] at hu
        injection hu with e1 _ e3
        subst e1 e3
        have CJ2 := fun W h => hid (ref_join AO cO (rs.map ruleS) ⟨#[32, 124, 32]⟩ W h (by rw [hml]; omega) (fun v hv => by
          obtain ⟨r, hr, rfl⟩ := List.mem_map.1 hv
          exact Nat.le_trans (ruleS_len (HRK.out r hr)) (by decide)) (s := barS) rfl (by decide) rfl)
        have hjl := join_le barS 7000 (rs.map ruleS) fun v hv => by
          obtain ⟨r, hr, rfl⟩ := List.mem_map.1 hv
          exact ruleS_len (HRK.out r hr)
        rw [hml] at CJ2 hjl
        obtain ⟨jr, ejr⟩ : ∃ s, joinS barS (rs.map ruleS) = s := ⟨_, rfl⟩
        rw [ejr] at CJ2 hjl HX
        have hjl2 : jr.length ≤ 21009 := by
          have hc : barS.length = 3 := rfl
          rw [hc] at hjl
          omega
        obtain ⟨JR, hJR, hJRd⟩ : ∃ Y : ByteArray, (⟨jr.toArray⟩ : ByteArray) = Y ∧ Y.data.toList = jr := ⟨_, rfl, rfl⟩
        have hJRb : JR.size ≤ 21009 := by
          have h1 : JR.size = jr.length := by rw [← hJRd]; simp
          omega
        rw [hJR] at CJ2
        have HAT := hid hAT
        have HS2 : Hid ((S1 ++ ⟨#[41, 32, 58, 45, 32]⟩ ++ JR : ByteArray).data.toList = (H1 ++ [41, 32, 58, 45, 32]) ++ jr) := hid (cat_of (cat_of HS1.out rfl) hJRd)
        have hS2 : (S1 ++ ⟨#[41, 32, 58, 45, 32]⟩ ++ JR : ByteArray).size ≤ 21500 := by
          simp only [ByteArray.size_append]
          show S1.size + 5 + JR.size ≤ _
          omega
        obtain ⟨H2, eH2⟩ : ∃ h, (H1 ++ [41, 32, 58, 45, 32]) ++ jr = h := ⟨_, rfl⟩
        rw [eH2] at HX HS2
        clear hO hml hAT hjl ejr hJR hJRd hjl2 HOW eH2 hlj HRK HNE HOP
        go_wp2_with fail
        refine (CJ2 _ HAT.out).out.mono ?_
        rintro e w4 ⟨rfl, b4⟩
        have HB4 := hid (HB.out.trans (b4.mono (by omega)))
        clear CJ2 HAT b4 HB q0 q1 q2 q3 q4 qlt hbel
        go_wp2
        generalize (S1 ++ ⟨#[41, 32, 58, 45, 32]⟩ ++ JR : ByteArray) = S2 at *
        have HO0 : Hid (w4.ownsRow (w.heap.size + 1) 9 1 (.slice none 0 0) ((os.take 0).map keyS).length (((os.take 0).map keyS).map nmV)) := hid (World.ownsRow_nil _ _ _ _)
        go_loopw [7, 6] (fun i u wr => ∃ (k : Nat) (AO : Option Addr) (cO : Nat), k ≤ os.length ∧ i = .int .i64 k ∧ u = .slice AO k cO ∧ Hid (wr.ownsRow (w.heap.size + 1) 9 1 (.slice AO k cO) ((os.take k).map keyS).length (((os.take k).map keyS).map nmV)) ∧ Hid (Below (w.heap.size + 1) _ wr)) (fun i _ _ => os.length - (intOf i).toNat)
        case atStart => exact ⟨0, none, 0, by omega, rfl, rfl, HO0, HB4⟩
        case round =>
          clear HO0 HB4
          obtain ⟨k, AO, cO, hk, rfl, rfl, HOW, HB⟩ := hrel
          obtain ⟨q0, q1, q2, q3, q4, qlt, hbel⟩ := qry_cells HB.out
          by_cases hlt : k < os.length
          · obtain ⟨bk, o, rfl, hc⟩ := HO.out (by omega)
            obtain ⟨c0, c1⟩ := hc k hlt
            replace c0 := cell_keep hbel c0
            replace c1 := cell_keep hbel c1
            have hkk := HK6.out _ (List.getElem_mem hlt)
            have hPk : (os.take (k + 1)).map keyS = (os.take k).map keyS ++ [keyS os[k]] := by rw [List.take_succ_eq_append_getElem hlt, List.map_append]; rfl
            have hlj : ((os.take k).map keyS).length = k := by simp only [List.length_map, List.length_take]; omega
            obtain ⟨⟨kv, kd⟩, ek⟩ : ∃ r, os[k] = r := ⟨_, rfl⟩
            rw [ek] at c0 c1 hkk hPk
            unfold KyOk at hkk
            simp only at c0 c1 hkk
            obtain ⟨Z, hZ, hZd⟩ : ∃ Y : ByteArray, (⟨kv.toArray⟩ : ByteArray) = Y ∧ Y.data.toList = kv := ⟨_, rfl, rfl⟩
            have hZb : Z.size ≤ 16 := by
              have h1 : Z.size = kv.length := by rw [← hZd]; simp
              omega
            rw [hZ] at c0
            have HZd := hid hZd
            have HPk := hid hPk
            rw [hlj] at HOW
            have hl1 : ((os.take (k + 1)).map keyS).length = k + 1 := by simp only [List.length_map, List.length_take]; omega
            have hsz : w.heap.size + 1 ≤ wr.heap.size := by omega
            clear hc ek hkk hPk hZ hZd hlj
            cases kd
            · have HTS : Hid (Value.string Z = nmV (keyS ⟨kv, false⟩)) := hid (by
                have e : keyS ⟨kv, false⟩ = kv := by unfold keyS; simp
                rw [e]
                exact str_of HZd.out)
              go_wp2_with (at_builtin; refine wpList_append_new2 Tryd.underlying22 hi hz0 hz1 hz2 rfl (by decide) (by decide) rfl rfl rfl HOW.out rfl (by simp) rfl rfl (by omega) hsz ?_; intro v3 w3 hown3 hg3; obtain ⟨g3, cap3, rfl⟩ := own_slice1 hown3)
              have HO3 : Hid (w3.ownsRow (w.heap.size + 1) 9 1 (.slice (some ⟨g3, 0, none⟩) (k + 1) cap3) ((os.take (k + 1)).map keyS).length (((os.take (k + 1)).map keyS).map nmV)) := hid (by
                rw [hl1, HPk.out, List.map_append, List.map_singleton, ← HTS.out]
                exact hown3)
              have HB3 := hid (HB.out.trans (grown_below HOW.out hg3 hsz))
              clear HOW HB hown3 hg3 HPk hl1 HTS q0 q1 q2 q3 q4 qlt hbel c0 c1 HZd
              go_roundw
              case rel => exact ⟨k + 1, _, _, by omega, by go_num, rfl, HO3, HB3⟩
              case measure => simp [intOf]; omega
            · have HTS : Hid (Value.string (Z ++ ⟨#[32, 100, 101, 115, 99]⟩) = nmV (keyS ⟨kv, true⟩)) := hid (by
                have e : keyS ⟨kv, true⟩ = kv ++ [32, 100, 101, 115, 99] := by unfold keyS; simp
                rw [e]
                exact str_of (cat_of HZd.out rfl))
              go_wp2_with (at_builtin; refine wpList_append_new2 Tryd.underlying22 hi hz0 hz1 hz2 rfl (by decide) (by decide) rfl rfl rfl HOW.out rfl (by simp) rfl rfl (by omega) hsz ?_; intro v3 w3 hown3 hg3; obtain ⟨g3, cap3, rfl⟩ := own_slice1 hown3)
              have HO3 : Hid (w3.ownsRow (w.heap.size + 1) 9 1 (.slice (some ⟨g3, 0, none⟩) (k + 1) cap3) ((os.take (k + 1)).map keyS).length (((os.take (k + 1)).map keyS).map nmV)) := hid (by
                rw [hl1, HPk.out, List.map_append, List.map_singleton, ← HTS.out]
                exact hown3)
              have HB3 := hid (HB.out.trans (grown_below HOW.out hg3 hsz))
              clear HOW HB hown3 hg3 HPk hl1 HTS q0 q1 q2 q3 q4 qlt hbel c0 c1 HZd
              go_roundw
              case rel => exact ⟨k + 1, _, _, by omega, by go_num, rfl, HO3, HB3⟩
              case measure => simp [intOf]; omega
          · have hend : k = os.length := by omega
            subst hend
            by_cases hos : os.length = 0
            · have hos2 : os = [] := List.length_eq_zero_iff.1 hos
              have HXe : Hid (H2 = x) := hid (by
                have e := HX.out
                rw [hos2] at e
                unfold orderS at e
                simpa using e)
              have hln : ¬ 0 < os.length := by omega
              have hbb := hbel
              have hsx : S2 = ⟨x.toArray⟩ := by
                have h1 := HS2.out
                rw [HXe.out] at h1
                rw [← h1]
              have HSX := hid hsx
              clear HX HS2 HXe hos2 HOW HB hsx
              go_wp2
              go_ret
              exact ⟨congrArg (fun a => Ending.returned (.string a)) HSX.out, hbb⟩
            · have hos2 : os ≠ [] := fun e => hos (by rw [e]; rfl)
              have hO := HOW.out
              rw [List.take_length] at hO
              have hml : (os.map keyS).length = os.length := List.length_map ..
              obtain ⟨_, _, hu, hAT, _⟩ := own_names hO
              rw [hml] at hu
              injection hu with e1 _ e3
              subst e1 e3
              have CJ3 := fun W h => hid (ref_join AO cO (os.map keyS) ⟨#[44, 32]⟩ W h (by rw [hml]; omega) (fun v hv => by
                obtain ⟨r, hr, rfl⟩ := List.mem_map.1 hv
                exact Nat.le_trans (keyS_len (HK6.out r hr)) (by decide)) (s := comS) rfl (by decide) rfl)
              have hjl := join_le comS 21 (os.map keyS) fun v hv => by
                obtain ⟨r, hr, rfl⟩ := List.mem_map.1 hv
                exact keyS_len (HK6.out r hr)
              rw [hml] at CJ3 hjl
              obtain ⟨jo, ejo⟩ : ∃ s, joinS comS (os.map keyS) = s := ⟨_, rfl⟩
              have HXe : Hid ((H2 ++ [32, 111, 114, 100, 101, 114, 32]) ++ jo = x) := hid (by
                have e := HX.out
                unfold orderS at e
                rw [if_neg hos2, ejo] at e
                rw [← e, List.append_assoc])
              rw [ejo] at CJ3 hjl
              have hjl2 : jo.length ≤ 138 := by
                have hc : comS.length = 2 := rfl
                rw [hc] at hjl
                omega
              obtain ⟨JO, hJO, hJOd⟩ : ∃ Y : ByteArray, (⟨jo.toArray⟩ : ByteArray) = Y ∧ Y.data.toList = jo := ⟨_, rfl, rfl⟩
              have hJOb : JO.size ≤ 138 := by
                have h1 : JO.size = jo.length := by rw [← hJOd]; simp
                omega
              rw [hJO] at CJ3
              have HAT := hid hAT
              have HTS : Hid (Value.string (S2 ++ ⟨#[32, 111, 114, 100, 101, 114, 32]⟩ ++ JO) = .string ⟨x.toArray⟩) := hid (by
                rw [← HXe.out]
                exact str_of (cat_of (cat_of HS2.out rfl) hJOd))
              have hpos : 0 < os.length := by omega
              have HDB := hid hbel
              clear HX HS2 HXe hos2 hO hml hAT hjl ejo hjl2 hJO hJOd HOW
              go_wp2_with fail
              refine (CJ3 _ HAT.out).out.mono ?_
              rintro e w9 ⟨rfl, b9⟩
              have hbb := HDB.out.trans (b9.mono HDB.out.size)
              clear CJ3 HAT b9 HDB HB q0 q1 q2 q3 q4 qlt hbel
              go_wp2
              go_ret
              exact ⟨congrArg Ending.returned HTS.out, hbb⟩
  · have HS1 : Hid ((⟨#[97, 110, 115, 40]⟩ ++ J ++ ⟨#[59, 32, 115, 117, 109, 32]⟩ ++ Y : ByteArray).data.toList = H1) := hid (by
      have e := EH1.out
      unfold aggS at e; simp only [(by decide : ¬ (2 : Int) = 1), if_false, if_true] at e; rw [← List.append_assoc] at e
      rw [← e]
      exact cat_of (cat_of (cat_of rfl HJd.out) rfl) HYd.out)
    have hS1 : (⟨#[97, 110, 115, 40]⟩ ++ J ++ ⟨#[59, 32, 115, 117, 109, 32]⟩ ++ Y : ByteArray).size ≤ 150 := by
      simp only [ByteArray.size_append]
      show 4 + J.size + 6 + Y.size ≤ _; omega
    clear EH1 HJd
    go_wp2
    generalize (⟨#[97, 110, 115, 40]⟩ ++ J ++ ⟨#[59, 32, 115, 117, 109, 32]⟩ ++ Y : ByteArray) = S1 at *
    clear q0 q1 q2 q3 q4 qlt hbel
    have HO0 : Hid (w1.ownsRow (w.heap.size + 1) 9 1 (.slice none 0 0) ((rs.take 0).map ruleS).length (((rs.take 0).map ruleS).map nmV)) := hid (World.ownsRow_nil _ _ _ _)
    go_loopw [5, 4] (fun i u wr => ∃ (k : Nat) (AO : Option Addr) (cO : Nat), k ≤ rs.length ∧ i = .int .i64 k ∧ u = .slice AO k cO ∧ Hid (wr.ownsRow (w.heap.size + 1) 9 1 (.slice AO k cO) ((rs.take k).map ruleS).length (((rs.take k).map ruleS).map nmV)) ∧ Hid (Below (w.heap.size + 1) _ wr)) (fun i _ _ => rs.length - (intOf i).toNat)
    case atStart => exact ⟨0, none, 0, by omega, rfl, rfl, HO0, HB1⟩
    case round =>
      clear HO0 HB1
      obtain ⟨k, AO, cO, hk, rfl, rfl, HOW, HB⟩ := hrel
      obtain ⟨q0, q1, q2, q3, q4, qlt, hbel⟩ := qry_cells HB.out
      have hlj : k ≤ rs.length → ((rs.take k).map ruleS).length = k := fun h => by simp only [List.length_map, List.length_take]; omega
      by_cases hlt : k < rs.length
      · obtain ⟨br, o, rfl, hc⟩ := HR.out (by omega)
        obtain ⟨TA, ca, TC, cc, c0, c1, hra, hrc, _⟩ := hc k hlt
        replace c0 := cell_keep hbel c0
        replace c1 := cell_keep hbel c1
        have hrk := HRK.out _ (List.getElem_mem hlt)
        have hne := HNE.out _ (List.getElem_mem hlt)
        have hop := HOP.out _ (List.getElem_mem hlt)
        have hPk : (rs.take (k + 1)).map ruleS = (rs.take k).map ruleS ++ [ruleS rs[k]] := by rw [List.take_succ_eq_append_getElem hlt, List.map_append]; rfl
        obtain ⟨r, er⟩ : ∃ r, rs[k] = r := ⟨_, rfl⟩
        rw [er] at c0 c1 hra hrc hrk hne hop hPk
        have CT := hid (ref_ruleText r TA TC ca cc wr (hra.below hbel) (hrc.below hbel) hrk hne hop rfl)
        obtain ⟨na, ena⟩ : ∃ n, r.atoms.length = n := ⟨_, rfl⟩
        obtain ⟨nc, enc⟩ : ∃ n, r.conds.length = n := ⟨_, rfl⟩
        rw [ena] at c0 CT
        rw [enc] at c1 CT
        obtain ⟨tx, etx⟩ : ∃ t, ruleS r = t := ⟨_, rfl⟩
        rw [etx] at CT hPk
        have HPk := hid hPk
        rw [hlj hk] at HOW
        clear hc er hra hrc hrk hne hop hPk ena enc etx hlj
        go_wp2_with fail
        refine CT.out.mono ?_
        rintro e w2 ⟨rfl, b2⟩
        have HB2 := hid (HB.out.trans (b2.mono (by omega)))
        have HO2 := hid (own_below HOW.out b2)
        have hs2 : w.heap.size + 1 ≤ w2.heap.size := Nat.le_trans (by omega) b2.size
        clear CT b2 HB HOW q0 q1 q2 q3 q4 qlt hbel c0 c1
        go_wp2_with (at_builtin; refine wpList_append_new2 Tryd.underlying22 hi hz0 hz1 hz2 rfl (by decide) (by decide) rfl rfl rfl HO2.out rfl (by simp) rfl rfl (by omega) hs2 ?_; intro v3 w3 hown3 hg3; obtain ⟨g3, cap3, rfl⟩ := own_slice1 hown3)
        have hl1 : ((rs.take (k + 1)).map ruleS).length = k + 1 := by simp only [List.length_map, List.length_take]; omega
        have HO3 : Hid (w3.ownsRow (w.heap.size + 1) 9 1 (.slice (some ⟨g3, 0, none⟩) (k + 1) cap3) ((rs.take (k + 1)).map ruleS).length (((rs.take (k + 1)).map ruleS).map nmV)) := hid (by
          rw [hl1, HPk.out, List.map_append, List.map_singleton]
          exact hown3)
        have HB3 := hid (HB2.out.trans (grown_below HO2.out hg3 hs2))
        clear HO2 HB2 hown3 hg3 HPk hl1
        go_roundw
        case rel => exact ⟨k + 1, _, _, by omega, by go_num, rfl, HO3, HB3⟩
        case measure => simp [intOf]; omega
      · have hend : k = rs.length := by omega
        subst hend
        have hO := HOW.out
        rw [List.take_length] at hO
        have hml : (rs.map ruleS).length = rs.length := List.length_map ..
        obtain ⟨_, _, hu, hAT, _⟩ := own_names hO
        rw [hml] at hu
        injection hu with e1 _ e3
        subst e1 e3
        have CJ2 := fun W h => hid (ref_join AO cO (rs.map ruleS) ⟨#[32, 124, 32]⟩ W h (by rw [hml]; omega) (fun v hv => by
          obtain ⟨r, hr, rfl⟩ := List.mem_map.1 hv
          exact Nat.le_trans (ruleS_len (HRK.out r hr)) (by decide)) (s := barS) rfl (by decide) rfl)
        have hjl := join_le barS 7000 (rs.map ruleS) fun v hv => by
          obtain ⟨r, hr, rfl⟩ := List.mem_map.1 hv
          exact ruleS_len (HRK.out r hr)
        rw [hml] at CJ2 hjl
        obtain ⟨jr, ejr⟩ : ∃ s, joinS barS (rs.map ruleS) = s := ⟨_, rfl⟩
        rw [ejr] at CJ2 hjl HX
        have hjl2 : jr.length ≤ 21009 := by
          have hc : barS.length = 3 := rfl
          rw [hc] at hjl
          omega
        obtain ⟨JR, hJR, hJRd⟩ : ∃ Y : ByteArray, (⟨jr.toArray⟩ : ByteArray) = Y ∧ Y.data.toList = jr := ⟨_, rfl, rfl⟩
        have hJRb : JR.size ≤ 21009 := by
          have h1 : JR.size = jr.length := by rw [← hJRd]; simp
          omega
        rw [hJR] at CJ2
        have HAT := hid hAT
        have HS2 : Hid ((S1 ++ ⟨#[41, 32, 58, 45, 32]⟩ ++ JR : ByteArray).data.toList = (H1 ++ [41, 32, 58, 45, 32]) ++ jr) := hid (cat_of (cat_of HS1.out rfl) hJRd)
        have hS2 : (S1 ++ ⟨#[41, 32, 58, 45, 32]⟩ ++ JR : ByteArray).size ≤ 21500 := by
          simp only [ByteArray.size_append]
          show S1.size + 5 + JR.size ≤ _
          omega
        obtain ⟨H2, eH2⟩ : ∃ h, (H1 ++ [41, 32, 58, 45, 32]) ++ jr = h := ⟨_, rfl⟩
        rw [eH2] at HX HS2
        clear hO hml hAT hjl ejr hJR hJRd hjl2 HOW eH2 hlj HRK HNE HOP
        go_wp2_with fail
        refine (CJ2 _ HAT.out).out.mono ?_
        rintro e w4 ⟨rfl, b4⟩
        have HB4 := hid (HB.out.trans (b4.mono (by omega)))
        clear CJ2 HAT b4 HB q0 q1 q2 q3 q4 qlt hbel
        go_wp2
        generalize (S1 ++ ⟨#[41, 32, 58, 45, 32]⟩ ++ JR : ByteArray) = S2 at *
        have HO0 : Hid (w4.ownsRow (w.heap.size + 1) 9 1 (.slice none 0 0) ((os.take 0).map keyS).length (((os.take 0).map keyS).map nmV)) := hid (World.ownsRow_nil _ _ _ _)
        go_loopw [7, 6] (fun i u wr => ∃ (k : Nat) (AO : Option Addr) (cO : Nat), k ≤ os.length ∧ i = .int .i64 k ∧ u = .slice AO k cO ∧ Hid (wr.ownsRow (w.heap.size + 1) 9 1 (.slice AO k cO) ((os.take k).map keyS).length (((os.take k).map keyS).map nmV)) ∧ Hid (Below (w.heap.size + 1) _ wr)) (fun i _ _ => os.length - (intOf i).toNat)
        case atStart => exact ⟨0, none, 0, by omega, rfl, rfl, HO0, HB4⟩
        case round =>
          clear HO0 HB4
          obtain ⟨k, AO, cO, hk, rfl, rfl, HOW, HB⟩ := hrel
          obtain ⟨q0, q1, q2, q3, q4, qlt, hbel⟩ := qry_cells HB.out
          by_cases hlt : k < os.length
          · obtain ⟨bk, o, rfl, hc⟩ := HO.out (by omega)
            obtain ⟨c0, c1⟩ := hc k hlt
            replace c0 := cell_keep hbel c0
            replace c1 := cell_keep hbel c1
            have hkk := HK6.out _ (List.getElem_mem hlt)
            have hPk : (os.take (k + 1)).map keyS = (os.take k).map keyS ++ [keyS os[k]] := by rw [List.take_succ_eq_append_getElem hlt, List.map_append]; rfl
            have hlj : ((os.take k).map keyS).length = k := by simp only [List.length_map, List.length_take]; omega
            obtain ⟨⟨kv, kd⟩, ek⟩ : ∃ r, os[k] = r := ⟨_, rfl⟩
            rw [ek] at c0 c1 hkk hPk
            unfold KyOk at hkk
            simp only at c0 c1 hkk
            obtain ⟨Z, hZ, hZd⟩ : ∃ Y : ByteArray, (⟨kv.toArray⟩ : ByteArray) = Y ∧ Y.data.toList = kv := ⟨_, rfl, rfl⟩
            have hZb : Z.size ≤ 16 := by
              have h1 : Z.size = kv.length := by rw [← hZd]; simp
              omega
            rw [hZ] at c0
            have HZd := hid hZd
            have HPk := hid hPk
            rw [hlj] at HOW
            have hl1 : ((os.take (k + 1)).map keyS).length = k + 1 := by simp only [List.length_map, List.length_take]; omega
            have hsz : w.heap.size + 1 ≤ wr.heap.size := by omega
            clear hc ek hkk hPk hZ hZd hlj
            cases kd
            · have HTS : Hid (Value.string Z = nmV (keyS ⟨kv, false⟩)) := hid (by
                have e : keyS ⟨kv, false⟩ = kv := by unfold keyS; simp
                rw [e]
                exact str_of HZd.out)
              go_wp2_with (at_builtin; refine wpList_append_new2 Tryd.underlying22 hi hz0 hz1 hz2 rfl (by decide) (by decide) rfl rfl rfl HOW.out rfl (by simp) rfl rfl (by omega) hsz ?_; intro v3 w3 hown3 hg3; obtain ⟨g3, cap3, rfl⟩ := own_slice1 hown3)
              have HO3 : Hid (w3.ownsRow (w.heap.size + 1) 9 1 (.slice (some ⟨g3, 0, none⟩) (k + 1) cap3) ((os.take (k + 1)).map keyS).length (((os.take (k + 1)).map keyS).map nmV)) := hid (by
                rw [hl1, HPk.out, List.map_append, List.map_singleton, ← HTS.out]
                exact hown3)
              have HB3 := hid (HB.out.trans (grown_below HOW.out hg3 hsz))
              clear HOW HB hown3 hg3 HPk hl1 HTS q0 q1 q2 q3 q4 qlt hbel c0 c1 HZd
              go_roundw
              case rel => exact ⟨k + 1, _, _, by omega, by go_num, rfl, HO3, HB3⟩
              case measure => simp [intOf]; omega
            · have HTS : Hid (Value.string (Z ++ ⟨#[32, 100, 101, 115, 99]⟩) = nmV (keyS ⟨kv, true⟩)) := hid (by
                have e : keyS ⟨kv, true⟩ = kv ++ [32, 100, 101, 115, 99] := by unfold keyS; simp
                rw [e]
                exact str_of (cat_of HZd.out rfl))
              go_wp2_with (at_builtin; refine wpList_append_new2 Tryd.underlying22 hi hz0 hz1 hz2 rfl (by decide) (by decide) rfl rfl rfl HOW.out rfl (by simp) rfl rfl (by omega) hsz ?_; intro v3 w3 hown3 hg3; obtain ⟨g3, cap3, rfl⟩ := own_slice1 hown3)
              have HO3 : Hid (w3.ownsRow (w.heap.size + 1) 9 1 (.slice (some ⟨g3, 0, none⟩) (k + 1) cap3) ((os.take (k + 1)).map keyS).length (((os.take (k + 1)).map keyS).map nmV)) := hid (by
                rw [hl1, HPk.out, List.map_append, List.map_singleton, ← HTS.out]
                exact hown3)
              have HB3 := hid (HB.out.trans (grown_below HOW.out hg3 hsz))
              clear HOW HB hown3 hg3 HPk hl1 HTS q0 q1 q2 q3 q4 qlt hbel c0 c1 HZd
              go_roundw
              case rel => exact ⟨k + 1, _, _, by omega, by go_num, rfl, HO3, HB3⟩
              case measure => simp [intOf]; omega
          · have hend : k = os.length := by omega
            subst hend
            by_cases hos : os.length = 0
            · have hos2 : os = [] := List.length_eq_zero_iff.1 hos
              have HXe : Hid (H2 = x) := hid (by
                have e := HX.out
                rw [hos2] at e
                unfold orderS at e
                simpa using e)
              have hln : ¬ 0 < os.length := by omega
              have hbb := hbel
              have hsx : S2 = ⟨x.toArray⟩ := by
                have h1 := HS2.out
                rw [HXe.out] at h1
                rw [← h1]
              have HSX := hid hsx
              clear HX HS2 HXe hos2 HOW HB hsx
              go_wp2
              go_ret
              exact ⟨congrArg (fun a => Ending.returned (.string a)) HSX.out, hbb⟩
            · have hos2 : os ≠ [] := fun e => hos (by rw [e]; rfl)
              have hO := HOW.out
              rw [List.take_length] at hO
              have hml : (os.map keyS).length = os.length := List.length_map ..
              obtain ⟨_, _, hu, hAT, _⟩ := own_names hO
              rw [hml] at hu
              injection hu with e1 _ e3
              subst e1 e3
              have CJ3 := fun W h => hid (ref_join AO cO (os.map keyS) ⟨#[44, 32]⟩ W h (by rw [hml]; omega) (fun v hv => by
                obtain ⟨r, hr, rfl⟩ := List.mem_map.1 hv
                exact Nat.le_trans (keyS_len (HK6.out r hr)) (by decide)) (s := comS) rfl (by decide) rfl)
              have hjl := join_le comS 21 (os.map keyS) fun v hv => by
                obtain ⟨r, hr, rfl⟩ := List.mem_map.1 hv
                exact keyS_len (HK6.out r hr)
              rw [hml] at CJ3 hjl
              obtain ⟨jo, ejo⟩ : ∃ s, joinS comS (os.map keyS) = s := ⟨_, rfl⟩
              have HXe : Hid ((H2 ++ [32, 111, 114, 100, 101, 114, 32]) ++ jo = x) := hid (by
                have e := HX.out
                unfold orderS at e
                rw [if_neg hos2, ejo] at e
                rw [← e, List.append_assoc])
              rw [ejo] at CJ3 hjl
              have hjl2 : jo.length ≤ 138 := by
                have hc : comS.length = 2 := rfl
                rw [hc] at hjl
                omega
              obtain ⟨JO, hJO, hJOd⟩ : ∃ Y : ByteArray, (⟨jo.toArray⟩ : ByteArray) = Y ∧ Y.data.toList = jo := ⟨_, rfl, rfl⟩
              have hJOb : JO.size ≤ 138 := by
                have h1 : JO.size = jo.length := by rw [← hJOd]; simp
                omega
              rw [hJO] at CJ3
              have HAT := hid hAT
              have HTS : Hid (Value.string (S2 ++ ⟨#[32, 111, 114, 100, 101, 114, 32]⟩ ++ JO) = .string ⟨x.toArray⟩) := hid (by
                rw [← HXe.out]
                exact str_of (cat_of (cat_of HS2.out rfl) hJOd))
              have hpos : 0 < os.length := by omega
              have HDB := hid hbel
              clear HX HS2 HXe hos2 hO hml hAT hjl ejo hjl2 hJO hJOd HOW
              go_wp2_with fail
              refine (CJ3 _ HAT.out).out.mono ?_
              rintro e w9 ⟨rfl, b9⟩
              have hbb := HDB.out.trans (b9.mono HDB.out.size)
              clear CJ3 HAT b9 HDB HB q0 q1 q2 q3 q4 qlt hbel
              go_wp2
              go_ret
              exact ⟨congrArg Ending.returned HTS.out, hbb⟩
  · have HS1 : Hid ((⟨#[97, 110, 115, 40]⟩ ++ J ++ ⟨#[59, 32, 109, 105, 110, 32]⟩ ++ Y : ByteArray).data.toList = H1) := hid (by
      have e := EH1.out
      unfold aggS at e; simp only [(by decide : ¬ (3 : Int) = 1), (by decide : ¬ (3 : Int) = 2), if_false, if_true] at e; rw [← List.append_assoc] at e
      rw [← e]
      exact cat_of (cat_of (cat_of rfl HJd.out) rfl) HYd.out)
    have hS1 : (⟨#[97, 110, 115, 40]⟩ ++ J ++ ⟨#[59, 32, 109, 105, 110, 32]⟩ ++ Y : ByteArray).size ≤ 150 := by
      simp only [ByteArray.size_append]
      show 4 + J.size + 6 + Y.size ≤ _; omega
    clear EH1 HJd
    go_wp2
    generalize (⟨#[97, 110, 115, 40]⟩ ++ J ++ ⟨#[59, 32, 109, 105, 110, 32]⟩ ++ Y : ByteArray) = S1 at *
    clear q0 q1 q2 q3 q4 qlt hbel
    have HO0 : Hid (w1.ownsRow (w.heap.size + 1) 9 1 (.slice none 0 0) ((rs.take 0).map ruleS).length (((rs.take 0).map ruleS).map nmV)) := hid (World.ownsRow_nil _ _ _ _)
    go_loopw [5, 4] (fun i u wr => ∃ (k : Nat) (AO : Option Addr) (cO : Nat), k ≤ rs.length ∧ i = .int .i64 k ∧ u = .slice AO k cO ∧ Hid (wr.ownsRow (w.heap.size + 1) 9 1 (.slice AO k cO) ((rs.take k).map ruleS).length (((rs.take k).map ruleS).map nmV)) ∧ Hid (Below (w.heap.size + 1) _ wr)) (fun i _ _ => rs.length - (intOf i).toNat)
    case atStart => exact ⟨0, none, 0, by omega, rfl, rfl, HO0, HB1⟩
    case round =>
      clear HO0 HB1
      obtain ⟨k, AO, cO, hk, rfl, rfl, HOW, HB⟩ := hrel
      obtain ⟨q0, q1, q2, q3, q4, qlt, hbel⟩ := qry_cells HB.out
      have hlj : k ≤ rs.length → ((rs.take k).map ruleS).length = k := fun h => by simp only [List.length_map, List.length_take]; omega
      by_cases hlt : k < rs.length
      · obtain ⟨br, o, rfl, hc⟩ := HR.out (by omega)
        obtain ⟨TA, ca, TC, cc, c0, c1, hra, hrc, _⟩ := hc k hlt
        replace c0 := cell_keep hbel c0
        replace c1 := cell_keep hbel c1
        have hrk := HRK.out _ (List.getElem_mem hlt)
        have hne := HNE.out _ (List.getElem_mem hlt)
        have hop := HOP.out _ (List.getElem_mem hlt)
        have hPk : (rs.take (k + 1)).map ruleS = (rs.take k).map ruleS ++ [ruleS rs[k]] := by rw [List.take_succ_eq_append_getElem hlt, List.map_append]; rfl
        obtain ⟨r, er⟩ : ∃ r, rs[k] = r := ⟨_, rfl⟩
        rw [er] at c0 c1 hra hrc hrk hne hop hPk
        have CT := hid (ref_ruleText r TA TC ca cc wr (hra.below hbel) (hrc.below hbel) hrk hne hop rfl)
        obtain ⟨na, ena⟩ : ∃ n, r.atoms.length = n := ⟨_, rfl⟩
        obtain ⟨nc, enc⟩ : ∃ n, r.conds.length = n := ⟨_, rfl⟩
        rw [ena] at c0 CT
        rw [enc] at c1 CT
        obtain ⟨tx, etx⟩ : ∃ t, ruleS r = t := ⟨_, rfl⟩
        rw [etx] at CT hPk
        have HPk := hid hPk
        rw [hlj hk] at HOW
        clear hc er hra hrc hrk hne hop hPk ena enc etx hlj
        go_wp2_with fail
        refine CT.out.mono ?_
        rintro e w2 ⟨rfl, b2⟩
        have HB2 := hid (HB.out.trans (b2.mono (by omega)))
        have HO2 := hid (own_below HOW.out b2)
        have hs2 : w.heap.size + 1 ≤ w2.heap.size := Nat.le_trans (by omega) b2.size
        clear CT b2 HB HOW q0 q1 q2 q3 q4 qlt hbel c0 c1
        go_wp2_with (at_builtin; refine wpList_append_new2 Tryd.underlying22 hi hz0 hz1 hz2 rfl (by decide) (by decide) rfl rfl rfl HO2.out rfl (by simp) rfl rfl (by omega) hs2 ?_; intro v3 w3 hown3 hg3; obtain ⟨g3, cap3, rfl⟩ := own_slice1 hown3)
        have hl1 : ((rs.take (k + 1)).map ruleS).length = k + 1 := by simp only [List.length_map, List.length_take]; omega
        have HO3 : Hid (w3.ownsRow (w.heap.size + 1) 9 1 (.slice (some ⟨g3, 0, none⟩) (k + 1) cap3) ((rs.take (k + 1)).map ruleS).length (((rs.take (k + 1)).map ruleS).map nmV)) := hid (by
          rw [hl1, HPk.out, List.map_append, List.map_singleton]
          exact hown3)
        have HB3 := hid (HB2.out.trans (grown_below HO2.out hg3 hs2))
        clear HO2 HB2 hown3 hg3 HPk hl1
        go_roundw
        case rel => exact ⟨k + 1, _, _, by omega, by go_num, rfl, HO3, HB3⟩
        case measure => simp [intOf]; omega
      · have hend : k = rs.length := by omega
        subst hend
        have hO := HOW.out
        rw [List.take_length] at hO
        have hml : (rs.map ruleS).length = rs.length := List.length_map ..
        obtain ⟨_, _, hu, hAT, _⟩ := own_names hO
        rw [hml] at hu
        injection hu with e1 _ e3
        subst e1 e3
        have CJ2 := fun W h => hid (ref_join AO cO (rs.map ruleS) ⟨#[32, 124, 32]⟩ W h (by rw [hml]; omega) (fun v hv => by
          obtain ⟨r, hr, rfl⟩ := List.mem_map.1 hv
          exact Nat.le_trans (ruleS_len (HRK.out r hr)) (by decide)) (s := barS) rfl (by decide) rfl)
        have hjl := join_le barS 7000 (rs.map ruleS) fun v hv => by
          obtain ⟨r, hr, rfl⟩ := List.mem_map.1 hv
          exact ruleS_len (HRK.out r hr)
        rw [hml] at CJ2 hjl
        obtain ⟨jr, ejr⟩ : ∃ s, joinS barS (rs.map ruleS) = s := ⟨_, rfl⟩
        rw [ejr] at CJ2 hjl HX
        have hjl2 : jr.length ≤ 21009 := by
          have hc : barS.length = 3 := rfl
          rw [hc] at hjl
          omega
        obtain ⟨JR, hJR, hJRd⟩ : ∃ Y : ByteArray, (⟨jr.toArray⟩ : ByteArray) = Y ∧ Y.data.toList = jr := ⟨_, rfl, rfl⟩
        have hJRb : JR.size ≤ 21009 := by
          have h1 : JR.size = jr.length := by rw [← hJRd]; simp
          omega
        rw [hJR] at CJ2
        have HAT := hid hAT
        have HS2 : Hid ((S1 ++ ⟨#[41, 32, 58, 45, 32]⟩ ++ JR : ByteArray).data.toList = (H1 ++ [41, 32, 58, 45, 32]) ++ jr) := hid (cat_of (cat_of HS1.out rfl) hJRd)
        have hS2 : (S1 ++ ⟨#[41, 32, 58, 45, 32]⟩ ++ JR : ByteArray).size ≤ 21500 := by
          simp only [ByteArray.size_append]
          show S1.size + 5 + JR.size ≤ _
          omega
        obtain ⟨H2, eH2⟩ : ∃ h, (H1 ++ [41, 32, 58, 45, 32]) ++ jr = h := ⟨_, rfl⟩
        rw [eH2] at HX HS2
        clear hO hml hAT hjl ejr hJR hJRd hjl2 HOW eH2 hlj HRK HNE HOP
        go_wp2_with fail
        refine (CJ2 _ HAT.out).out.mono ?_
        rintro e w4 ⟨rfl, b4⟩
        have HB4 := hid (HB.out.trans (b4.mono (by omega)))
        clear CJ2 HAT b4 HB q0 q1 q2 q3 q4 qlt hbel
        go_wp2
        generalize (S1 ++ ⟨#[41, 32, 58, 45, 32]⟩ ++ JR : ByteArray) = S2 at *
        have HO0 : Hid (w4.ownsRow (w.heap.size + 1) 9 1 (.slice none 0 0) ((os.take 0).map keyS).length (((os.take 0).map keyS).map nmV)) := hid (World.ownsRow_nil _ _ _ _)
        go_loopw [7, 6] (fun i u wr => ∃ (k : Nat) (AO : Option Addr) (cO : Nat), k ≤ os.length ∧ i = .int .i64 k ∧ u = .slice AO k cO ∧ Hid (wr.ownsRow (w.heap.size + 1) 9 1 (.slice AO k cO) ((os.take k).map keyS).length (((os.take k).map keyS).map nmV)) ∧ Hid (Below (w.heap.size + 1) _ wr)) (fun i _ _ => os.length - (intOf i).toNat)
        case atStart => exact ⟨0, none, 0, by omega, rfl, rfl, HO0, HB4⟩
        case round =>
          clear HO0 HB4
          obtain ⟨k, AO, cO, hk, rfl, rfl, HOW, HB⟩ := hrel
          obtain ⟨q0, q1, q2, q3, q4, qlt, hbel⟩ := qry_cells HB.out
          by_cases hlt : k < os.length
          · obtain ⟨bk, o, rfl, hc⟩ := HO.out (by omega)
            obtain ⟨c0, c1⟩ := hc k hlt
            replace c0 := cell_keep hbel c0
            replace c1 := cell_keep hbel c1
            have hkk := HK6.out _ (List.getElem_mem hlt)
            have hPk : (os.take (k + 1)).map keyS = (os.take k).map keyS ++ [keyS os[k]] := by rw [List.take_succ_eq_append_getElem hlt, List.map_append]; rfl
            have hlj : ((os.take k).map keyS).length = k := by simp only [List.length_map, List.length_take]; omega
            obtain ⟨⟨kv, kd⟩, ek⟩ : ∃ r, os[k] = r := ⟨_, rfl⟩
            rw [ek] at c0 c1 hkk hPk
            unfold KyOk at hkk
            simp only at c0 c1 hkk
            obtain ⟨Z, hZ, hZd⟩ : ∃ Y : ByteArray, (⟨kv.toArray⟩ : ByteArray) = Y ∧ Y.data.toList = kv := ⟨_, rfl, rfl⟩
            have hZb : Z.size ≤ 16 := by
              have h1 : Z.size = kv.length := by rw [← hZd]; simp
              omega
            rw [hZ] at c0
            have HZd := hid hZd
            have HPk := hid hPk
            rw [hlj] at HOW
            have hl1 : ((os.take (k + 1)).map keyS).length = k + 1 := by simp only [List.length_map, List.length_take]; omega
            have hsz : w.heap.size + 1 ≤ wr.heap.size := by omega
            clear hc ek hkk hPk hZ hZd hlj
            cases kd
            · have HTS : Hid (Value.string Z = nmV (keyS ⟨kv, false⟩)) := hid (by
                have e : keyS ⟨kv, false⟩ = kv := by unfold keyS; simp
                rw [e]
                exact str_of HZd.out)
              go_wp2_with (at_builtin; refine wpList_append_new2 Tryd.underlying22 hi hz0 hz1 hz2 rfl (by decide) (by decide) rfl rfl rfl HOW.out rfl (by simp) rfl rfl (by omega) hsz ?_; intro v3 w3 hown3 hg3; obtain ⟨g3, cap3, rfl⟩ := own_slice1 hown3)
              have HO3 : Hid (w3.ownsRow (w.heap.size + 1) 9 1 (.slice (some ⟨g3, 0, none⟩) (k + 1) cap3) ((os.take (k + 1)).map keyS).length (((os.take (k + 1)).map keyS).map nmV)) := hid (by
                rw [hl1, HPk.out, List.map_append, List.map_singleton, ← HTS.out]
                exact hown3)
              have HB3 := hid (HB.out.trans (grown_below HOW.out hg3 hsz))
              clear HOW HB hown3 hg3 HPk hl1 HTS q0 q1 q2 q3 q4 qlt hbel c0 c1 HZd
              go_roundw
              case rel => exact ⟨k + 1, _, _, by omega, by go_num, rfl, HO3, HB3⟩
              case measure => simp [intOf]; omega
            · have HTS : Hid (Value.string (Z ++ ⟨#[32, 100, 101, 115, 99]⟩) = nmV (keyS ⟨kv, true⟩)) := hid (by
                have e : keyS ⟨kv, true⟩ = kv ++ [32, 100, 101, 115, 99] := by unfold keyS; simp
                rw [e]
                exact str_of (cat_of HZd.out rfl))
              go_wp2_with (at_builtin; refine wpList_append_new2 Tryd.underlying22 hi hz0 hz1 hz2 rfl (by decide) (by decide) rfl rfl rfl HOW.out rfl (by simp) rfl rfl (by omega) hsz ?_; intro v3 w3 hown3 hg3; obtain ⟨g3, cap3, rfl⟩ := own_slice1 hown3)
              have HO3 : Hid (w3.ownsRow (w.heap.size + 1) 9 1 (.slice (some ⟨g3, 0, none⟩) (k + 1) cap3) ((os.take (k + 1)).map keyS).length (((os.take (k + 1)).map keyS).map nmV)) := hid (by
                rw [hl1, HPk.out, List.map_append, List.map_singleton, ← HTS.out]
                exact hown3)
              have HB3 := hid (HB.out.trans (grown_below HOW.out hg3 hsz))
              clear HOW HB hown3 hg3 HPk hl1 HTS q0 q1 q2 q3 q4 qlt hbel c0 c1 HZd
              go_roundw
              case rel => exact ⟨k + 1, _, _, by omega, by go_num, rfl, HO3, HB3⟩
              case measure => simp [intOf]; omega
          · have hend : k = os.length := by omega
            subst hend
            by_cases hos : os.length = 0
            · have hos2 : os = [] := List.length_eq_zero_iff.1 hos
              have HXe : Hid (H2 = x) := hid (by
                have e := HX.out
                rw [hos2] at e
                unfold orderS at e
                simpa using e)
              have hln : ¬ 0 < os.length := by omega
              have hbb := hbel
              have hsx : S2 = ⟨x.toArray⟩ := by
                have h1 := HS2.out
                rw [HXe.out] at h1
                rw [← h1]
              have HSX := hid hsx
              clear HX HS2 HXe hos2 HOW HB hsx
              go_wp2
              go_ret
              exact ⟨congrArg (fun a => Ending.returned (.string a)) HSX.out, hbb⟩
            · have hos2 : os ≠ [] := fun e => hos (by rw [e]; rfl)
              have hO := HOW.out
              rw [List.take_length] at hO
              have hml : (os.map keyS).length = os.length := List.length_map ..
              obtain ⟨_, _, hu, hAT, _⟩ := own_names hO
              rw [hml] at hu
              injection hu with e1 _ e3
              subst e1 e3
              have CJ3 := fun W h => hid (ref_join AO cO (os.map keyS) ⟨#[44, 32]⟩ W h (by rw [hml]; omega) (fun v hv => by
                obtain ⟨r, hr, rfl⟩ := List.mem_map.1 hv
                exact Nat.le_trans (keyS_len (HK6.out r hr)) (by decide)) (s := comS) rfl (by decide) rfl)
              have hjl := join_le comS 21 (os.map keyS) fun v hv => by
                obtain ⟨r, hr, rfl⟩ := List.mem_map.1 hv
                exact keyS_len (HK6.out r hr)
              rw [hml] at CJ3 hjl
              obtain ⟨jo, ejo⟩ : ∃ s, joinS comS (os.map keyS) = s := ⟨_, rfl⟩
              have HXe : Hid ((H2 ++ [32, 111, 114, 100, 101, 114, 32]) ++ jo = x) := hid (by
                have e := HX.out
                unfold orderS at e
                rw [if_neg hos2, ejo] at e
                rw [← e, List.append_assoc])
              rw [ejo] at CJ3 hjl
              have hjl2 : jo.length ≤ 138 := by
                have hc : comS.length = 2 := rfl
                rw [hc] at hjl
                omega
              obtain ⟨JO, hJO, hJOd⟩ : ∃ Y : ByteArray, (⟨jo.toArray⟩ : ByteArray) = Y ∧ Y.data.toList = jo := ⟨_, rfl, rfl⟩
              have hJOb : JO.size ≤ 138 := by
                have h1 : JO.size = jo.length := by rw [← hJOd]; simp
                omega
              rw [hJO] at CJ3
              have HAT := hid hAT
              have HTS : Hid (Value.string (S2 ++ ⟨#[32, 111, 114, 100, 101, 114, 32]⟩ ++ JO) = .string ⟨x.toArray⟩) := hid (by
                rw [← HXe.out]
                exact str_of (cat_of (cat_of HS2.out rfl) hJOd))
              have hpos : 0 < os.length := by omega
              have HDB := hid hbel
              clear HX HS2 HXe hos2 hO hml hAT hjl ejo hjl2 hJO hJOd HOW
              go_wp2_with fail
              refine (CJ3 _ HAT.out).out.mono ?_
              rintro e w9 ⟨rfl, b9⟩
              have hbb := HDB.out.trans (b9.mono HDB.out.size)
              clear CJ3 HAT b9 HDB HB q0 q1 q2 q3 q4 qlt hbel
              go_wp2
              go_ret
              exact ⟨congrArg Ending.returned HTS.out, hbb⟩
  · have HS1 : Hid ((⟨#[97, 110, 115, 40]⟩ ++ J ++ ⟨#[59, 32, 109, 97, 120, 32]⟩ ++ Y : ByteArray).data.toList = H1) := hid (by
      have e := EH1.out
      unfold aggS at e; simp only [(by decide : ¬ (4 : Int) = 1), (by decide : ¬ (4 : Int) = 2), (by decide : ¬ (4 : Int) = 3), if_false, if_true] at e; rw [← List.append_assoc] at e
      rw [← e]
      exact cat_of (cat_of (cat_of rfl HJd.out) rfl) HYd.out)
    have hS1 : (⟨#[97, 110, 115, 40]⟩ ++ J ++ ⟨#[59, 32, 109, 97, 120, 32]⟩ ++ Y : ByteArray).size ≤ 150 := by
      simp only [ByteArray.size_append]
      show 4 + J.size + 6 + Y.size ≤ _; omega
    clear EH1 HJd
    go_wp2
    generalize (⟨#[97, 110, 115, 40]⟩ ++ J ++ ⟨#[59, 32, 109, 97, 120, 32]⟩ ++ Y : ByteArray) = S1 at *
    clear q0 q1 q2 q3 q4 qlt hbel
    have HO0 : Hid (w1.ownsRow (w.heap.size + 1) 9 1 (.slice none 0 0) ((rs.take 0).map ruleS).length (((rs.take 0).map ruleS).map nmV)) := hid (World.ownsRow_nil _ _ _ _)
    go_loopw [5, 4] (fun i u wr => ∃ (k : Nat) (AO : Option Addr) (cO : Nat), k ≤ rs.length ∧ i = .int .i64 k ∧ u = .slice AO k cO ∧ Hid (wr.ownsRow (w.heap.size + 1) 9 1 (.slice AO k cO) ((rs.take k).map ruleS).length (((rs.take k).map ruleS).map nmV)) ∧ Hid (Below (w.heap.size + 1) _ wr)) (fun i _ _ => rs.length - (intOf i).toNat)
    case atStart => exact ⟨0, none, 0, by omega, rfl, rfl, HO0, HB1⟩
    case round =>
      clear HO0 HB1
      obtain ⟨k, AO, cO, hk, rfl, rfl, HOW, HB⟩ := hrel
      obtain ⟨q0, q1, q2, q3, q4, qlt, hbel⟩ := qry_cells HB.out
      have hlj : k ≤ rs.length → ((rs.take k).map ruleS).length = k := fun h => by simp only [List.length_map, List.length_take]; omega
      by_cases hlt : k < rs.length
      · obtain ⟨br, o, rfl, hc⟩ := HR.out (by omega)
        obtain ⟨TA, ca, TC, cc, c0, c1, hra, hrc, _⟩ := hc k hlt
        replace c0 := cell_keep hbel c0
        replace c1 := cell_keep hbel c1
        have hrk := HRK.out _ (List.getElem_mem hlt)
        have hne := HNE.out _ (List.getElem_mem hlt)
        have hop := HOP.out _ (List.getElem_mem hlt)
        have hPk : (rs.take (k + 1)).map ruleS = (rs.take k).map ruleS ++ [ruleS rs[k]] := by rw [List.take_succ_eq_append_getElem hlt, List.map_append]; rfl
        obtain ⟨r, er⟩ : ∃ r, rs[k] = r := ⟨_, rfl⟩
        rw [er] at c0 c1 hra hrc hrk hne hop hPk
        have CT := hid (ref_ruleText r TA TC ca cc wr (hra.below hbel) (hrc.below hbel) hrk hne hop rfl)
        obtain ⟨na, ena⟩ : ∃ n, r.atoms.length = n := ⟨_, rfl⟩
        obtain ⟨nc, enc⟩ : ∃ n, r.conds.length = n := ⟨_, rfl⟩
        rw [ena] at c0 CT
        rw [enc] at c1 CT
        obtain ⟨tx, etx⟩ : ∃ t, ruleS r = t := ⟨_, rfl⟩
        rw [etx] at CT hPk
        have HPk := hid hPk
        rw [hlj hk] at HOW
        clear hc er hra hrc hrk hne hop hPk ena enc etx hlj
        go_wp2_with fail
        refine CT.out.mono ?_
        rintro e w2 ⟨rfl, b2⟩
        have HB2 := hid (HB.out.trans (b2.mono (by omega)))
        have HO2 := hid (own_below HOW.out b2)
        have hs2 : w.heap.size + 1 ≤ w2.heap.size := Nat.le_trans (by omega) b2.size
        clear CT b2 HB HOW q0 q1 q2 q3 q4 qlt hbel c0 c1
        go_wp2_with (at_builtin; refine wpList_append_new2 Tryd.underlying22 hi hz0 hz1 hz2 rfl (by decide) (by decide) rfl rfl rfl HO2.out rfl (by simp) rfl rfl (by omega) hs2 ?_; intro v3 w3 hown3 hg3; obtain ⟨g3, cap3, rfl⟩ := own_slice1 hown3)
        have hl1 : ((rs.take (k + 1)).map ruleS).length = k + 1 := by simp only [List.length_map, List.length_take]; omega
        have HO3 : Hid (w3.ownsRow (w.heap.size + 1) 9 1 (.slice (some ⟨g3, 0, none⟩) (k + 1) cap3) ((rs.take (k + 1)).map ruleS).length (((rs.take (k + 1)).map ruleS).map nmV)) := hid (by
          rw [hl1, HPk.out, List.map_append, List.map_singleton]
          exact hown3)
        have HB3 := hid (HB2.out.trans (grown_below HO2.out hg3 hs2))
        clear HO2 HB2 hown3 hg3 HPk hl1
        go_roundw
        case rel => exact ⟨k + 1, _, _, by omega, by go_num, rfl, HO3, HB3⟩
        case measure => simp [intOf]; omega
      · have hend : k = rs.length := by omega
        subst hend
        have hO := HOW.out
        rw [List.take_length] at hO
        have hml : (rs.map ruleS).length = rs.length := List.length_map ..
        obtain ⟨_, _, hu, hAT, _⟩ := own_names hO
        rw [hml] at hu
        injection hu with e1 _ e3
        subst e1 e3
        have CJ2 := fun W h => hid (ref_join AO cO (rs.map ruleS) ⟨#[32, 124, 32]⟩ W h (by rw [hml]; omega) (fun v hv => by
          obtain ⟨r, hr, rfl⟩ := List.mem_map.1 hv
          exact Nat.le_trans (ruleS_len (HRK.out r hr)) (by decide)) (s := barS) rfl (by decide) rfl)
        have hjl := join_le barS 7000 (rs.map ruleS) fun v hv => by
          obtain ⟨r, hr, rfl⟩ := List.mem_map.1 hv
          exact ruleS_len (HRK.out r hr)
        rw [hml] at CJ2 hjl
        obtain ⟨jr, ejr⟩ : ∃ s, joinS barS (rs.map ruleS) = s := ⟨_, rfl⟩
        rw [ejr] at CJ2 hjl HX
        have hjl2 : jr.length ≤ 21009 := by
          have hc : barS.length = 3 := rfl
          rw [hc] at hjl
          omega
        obtain ⟨JR, hJR, hJRd⟩ : ∃ Y : ByteArray, (⟨jr.toArray⟩ : ByteArray) = Y ∧ Y.data.toList = jr := ⟨_, rfl, rfl⟩
        have hJRb : JR.size ≤ 21009 := by
          have h1 : JR.size = jr.length := by rw [← hJRd]; simp
          omega
        rw [hJR] at CJ2
        have HAT := hid hAT
        have HS2 : Hid ((S1 ++ ⟨#[41, 32, 58, 45, 32]⟩ ++ JR : ByteArray).data.toList = (H1 ++ [41, 32, 58, 45, 32]) ++ jr) := hid (cat_of (cat_of HS1.out rfl) hJRd)
        have hS2 : (S1 ++ ⟨#[41, 32, 58, 45, 32]⟩ ++ JR : ByteArray).size ≤ 21500 := by
          simp only [ByteArray.size_append]
          show S1.size + 5 + JR.size ≤ _
          omega
        obtain ⟨H2, eH2⟩ : ∃ h, (H1 ++ [41, 32, 58, 45, 32]) ++ jr = h := ⟨_, rfl⟩
        rw [eH2] at HX HS2
        clear hO hml hAT hjl ejr hJR hJRd hjl2 HOW eH2 hlj HRK HNE HOP
        go_wp2_with fail
        refine (CJ2 _ HAT.out).out.mono ?_
        rintro e w4 ⟨rfl, b4⟩
        have HB4 := hid (HB.out.trans (b4.mono (by omega)))
        clear CJ2 HAT b4 HB q0 q1 q2 q3 q4 qlt hbel
        go_wp2
        generalize (S1 ++ ⟨#[41, 32, 58, 45, 32]⟩ ++ JR : ByteArray) = S2 at *
        have HO0 : Hid (w4.ownsRow (w.heap.size + 1) 9 1 (.slice none 0 0) ((os.take 0).map keyS).length (((os.take 0).map keyS).map nmV)) := hid (World.ownsRow_nil _ _ _ _)
        go_loopw [7, 6] (fun i u wr => ∃ (k : Nat) (AO : Option Addr) (cO : Nat), k ≤ os.length ∧ i = .int .i64 k ∧ u = .slice AO k cO ∧ Hid (wr.ownsRow (w.heap.size + 1) 9 1 (.slice AO k cO) ((os.take k).map keyS).length (((os.take k).map keyS).map nmV)) ∧ Hid (Below (w.heap.size + 1) _ wr)) (fun i _ _ => os.length - (intOf i).toNat)
        case atStart => exact ⟨0, none, 0, by omega, rfl, rfl, HO0, HB4⟩
        case round =>
          clear HO0 HB4
          obtain ⟨k, AO, cO, hk, rfl, rfl, HOW, HB⟩ := hrel
          obtain ⟨q0, q1, q2, q3, q4, qlt, hbel⟩ := qry_cells HB.out
          by_cases hlt : k < os.length
          · obtain ⟨bk, o, rfl, hc⟩ := HO.out (by omega)
            obtain ⟨c0, c1⟩ := hc k hlt
            replace c0 := cell_keep hbel c0
            replace c1 := cell_keep hbel c1
            have hkk := HK6.out _ (List.getElem_mem hlt)
            have hPk : (os.take (k + 1)).map keyS = (os.take k).map keyS ++ [keyS os[k]] := by rw [List.take_succ_eq_append_getElem hlt, List.map_append]; rfl
            have hlj : ((os.take k).map keyS).length = k := by simp only [List.length_map, List.length_take]; omega
            obtain ⟨⟨kv, kd⟩, ek⟩ : ∃ r, os[k] = r := ⟨_, rfl⟩
            rw [ek] at c0 c1 hkk hPk
            unfold KyOk at hkk
            simp only at c0 c1 hkk
            obtain ⟨Z, hZ, hZd⟩ : ∃ Y : ByteArray, (⟨kv.toArray⟩ : ByteArray) = Y ∧ Y.data.toList = kv := ⟨_, rfl, rfl⟩
            have hZb : Z.size ≤ 16 := by
              have h1 : Z.size = kv.length := by rw [← hZd]; simp
              omega
            rw [hZ] at c0
            have HZd := hid hZd
            have HPk := hid hPk
            rw [hlj] at HOW
            have hl1 : ((os.take (k + 1)).map keyS).length = k + 1 := by simp only [List.length_map, List.length_take]; omega
            have hsz : w.heap.size + 1 ≤ wr.heap.size := by omega
            clear hc ek hkk hPk hZ hZd hlj
            cases kd
            · have HTS : Hid (Value.string Z = nmV (keyS ⟨kv, false⟩)) := hid (by
                have e : keyS ⟨kv, false⟩ = kv := by unfold keyS; simp
                rw [e]
                exact str_of HZd.out)
              go_wp2_with (at_builtin; refine wpList_append_new2 Tryd.underlying22 hi hz0 hz1 hz2 rfl (by decide) (by decide) rfl rfl rfl HOW.out rfl (by simp) rfl rfl (by omega) hsz ?_; intro v3 w3 hown3 hg3; obtain ⟨g3, cap3, rfl⟩ := own_slice1 hown3)
              have HO3 : Hid (w3.ownsRow (w.heap.size + 1) 9 1 (.slice (some ⟨g3, 0, none⟩) (k + 1) cap3) ((os.take (k + 1)).map keyS).length (((os.take (k + 1)).map keyS).map nmV)) := hid (by
                rw [hl1, HPk.out, List.map_append, List.map_singleton, ← HTS.out]
                exact hown3)
              have HB3 := hid (HB.out.trans (grown_below HOW.out hg3 hsz))
              clear HOW HB hown3 hg3 HPk hl1 HTS q0 q1 q2 q3 q4 qlt hbel c0 c1 HZd
              go_roundw
              case rel => exact ⟨k + 1, _, _, by omega, by go_num, rfl, HO3, HB3⟩
              case measure => simp [intOf]; omega
            · have HTS : Hid (Value.string (Z ++ ⟨#[32, 100, 101, 115, 99]⟩) = nmV (keyS ⟨kv, true⟩)) := hid (by
                have e : keyS ⟨kv, true⟩ = kv ++ [32, 100, 101, 115, 99] := by unfold keyS; simp
                rw [e]
                exact str_of (cat_of HZd.out rfl))
              go_wp2_with (at_builtin; refine wpList_append_new2 Tryd.underlying22 hi hz0 hz1 hz2 rfl (by decide) (by decide) rfl rfl rfl HOW.out rfl (by simp) rfl rfl (by omega) hsz ?_; intro v3 w3 hown3 hg3; obtain ⟨g3, cap3, rfl⟩ := own_slice1 hown3)
              have HO3 : Hid (w3.ownsRow (w.heap.size + 1) 9 1 (.slice (some ⟨g3, 0, none⟩) (k + 1) cap3) ((os.take (k + 1)).map keyS).length (((os.take (k + 1)).map keyS).map nmV)) := hid (by
                rw [hl1, HPk.out, List.map_append, List.map_singleton, ← HTS.out]
                exact hown3)
              have HB3 := hid (HB.out.trans (grown_below HOW.out hg3 hsz))
              clear HOW HB hown3 hg3 HPk hl1 HTS q0 q1 q2 q3 q4 qlt hbel c0 c1 HZd
              go_roundw
              case rel => exact ⟨k + 1, _, _, by omega, by go_num, rfl, HO3, HB3⟩
              case measure => simp [intOf]; omega
          · have hend : k = os.length := by omega
            subst hend
            by_cases hos : os.length = 0
            · have hos2 : os = [] := List.length_eq_zero_iff.1 hos
              have HXe : Hid (H2 = x) := hid (by
                have e := HX.out
                rw [hos2] at e
                unfold orderS at e
                simpa using e)
              have hln : ¬ 0 < os.length := by omega
              have hbb := hbel
              have hsx : S2 = ⟨x.toArray⟩ := by
                have h1 := HS2.out
                rw [HXe.out] at h1
                rw [← h1]
              have HSX := hid hsx
              clear HX HS2 HXe hos2 HOW HB hsx
              go_wp2
              go_ret
              exact ⟨congrArg (fun a => Ending.returned (.string a)) HSX.out, hbb⟩
            · have hos2 : os ≠ [] := fun e => hos (by rw [e]; rfl)
              have hO := HOW.out
              rw [List.take_length] at hO
              have hml : (os.map keyS).length = os.length := List.length_map ..
              obtain ⟨_, _, hu, hAT, _⟩ := own_names hO
              rw [hml] at hu
              injection hu with e1 _ e3
              subst e1 e3
              have CJ3 := fun W h => hid (ref_join AO cO (os.map keyS) ⟨#[44, 32]⟩ W h (by rw [hml]; omega) (fun v hv => by
                obtain ⟨r, hr, rfl⟩ := List.mem_map.1 hv
                exact Nat.le_trans (keyS_len (HK6.out r hr)) (by decide)) (s := comS) rfl (by decide) rfl)
              have hjl := join_le comS 21 (os.map keyS) fun v hv => by
                obtain ⟨r, hr, rfl⟩ := List.mem_map.1 hv
                exact keyS_len (HK6.out r hr)
              rw [hml] at CJ3 hjl
              obtain ⟨jo, ejo⟩ : ∃ s, joinS comS (os.map keyS) = s := ⟨_, rfl⟩
              have HXe : Hid ((H2 ++ [32, 111, 114, 100, 101, 114, 32]) ++ jo = x) := hid (by
                have e := HX.out
                unfold orderS at e
                rw [if_neg hos2, ejo] at e
                rw [← e, List.append_assoc])
              rw [ejo] at CJ3 hjl
              have hjl2 : jo.length ≤ 138 := by
                have hc : comS.length = 2 := rfl
                rw [hc] at hjl
                omega
              obtain ⟨JO, hJO, hJOd⟩ : ∃ Y : ByteArray, (⟨jo.toArray⟩ : ByteArray) = Y ∧ Y.data.toList = jo := ⟨_, rfl, rfl⟩
              have hJOb : JO.size ≤ 138 := by
                have h1 : JO.size = jo.length := by rw [← hJOd]; simp
                omega
              rw [hJO] at CJ3
              have HAT := hid hAT
              have HTS : Hid (Value.string (S2 ++ ⟨#[32, 111, 114, 100, 101, 114, 32]⟩ ++ JO) = .string ⟨x.toArray⟩) := hid (by
                rw [← HXe.out]
                exact str_of (cat_of (cat_of HS2.out rfl) hJOd))
              have hpos : 0 < os.length := by omega
              have HDB := hid hbel
              clear HX HS2 HXe hos2 hO hml hAT hjl ejo hjl2 hJO hJOd HOW
              go_wp2_with fail
              refine (CJ3 _ HAT.out).out.mono ?_
              rintro e w9 ⟨rfl, b9⟩
              have hbb := HDB.out.trans (b9.mono HDB.out.size)
              clear CJ3 HAT b9 HDB HB q0 q1 q2 q3 q4 qlt hbel
              go_wp2
              go_ret
              exact ⟨congrArg Ending.returned HTS.out, hbb⟩
end Go.Proofs.YtgeapgbebbapmaaDoor
