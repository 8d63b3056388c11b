/-
  WALK: check.Check.
-/
import Derived.Test.YtgeapgbebbapmaaChk6
import Derived.Deep.QuietTactic
import Derived.BigQuiet
import Derived.Deep.RegionLaw
import Derived.Deep.DeepCutAuto
namespace Go.Proofs.Ytgeapgbebbapmaa
open Go.RowKit

theorem infoTyp : (Try.prog.info? 34).map (·.size) = some 2 := by kernel_rfl
theorem infoMap : (Try.prog.info? 68).map (fun i => (i.zero, i.size, i.bytes)) = some (some (.map none), 1, 8) := by kernel_rfl
theorem infoInt : (Try.prog.info? 3).map (fun i => (i.zero, i.size, i.bytes)) = some (some (.int .i64 0), 1, 8) := by kernel_rfl
theorem infoVar : (Try.prog.info? 65).map (fun i => (i.zero, i.size, i.bytes)) = some (some (.agg #[.string ⟨#[]⟩, .int .i64 0]), 2, 24) := by kernel_rfl
theorem infoVrs : (Try.prog.info? 62).map (fun i => (i.zero, i.size, i.bytes)) = some (some (.slice none 0 0), 1, 24) := by kernel_rfl
/-- What Check returns. -/
def RetT (w : World) (x : Int × Typ) (e : Ending) (w' : World) : Prop := ∃ H R ch cr, e = .returned (.tuple #[.agg #[.slice H x.2.head.length ch, .slice R x.2.rules.length cr], .int .i64 x.1]) ∧ KdsAt w' H x.2.head ∧ VrssAt w' R x.2.rules ∧ x.2.head.length ≤ ch ∧ x.2.rules.length ≤ cr ∧ Below w.heap.size w w'

set_option maxRecDepth 100000 in
set_option maxHeartbeats 32000000 in
theorem chk_check (q : Qry) (S : List Sch) (A R O B : Option Addr) (ch cr co cs : Nat) (w : World) (hq : QryIn w q A R O ch cr co) (hs : SchsAt w B S) (hwf : q.wf) (hws : ∀ s ∈ S, s.wf) (hms : S.length ≤ 9223372036854775807) {x : Int × Typ} (hx : checkT q S = x) :
    Calls Try.prog 13 #[qryV q A R O ch cr co, .slice B S.length cs] w (RetT w x) := by
  have HQ := hid hq
  have HS := hid hs
  have HWF := hid hwf
  have HWS := hid hws
  obtain ⟨y0, e0⟩ : ∃ y, checkQ q = y := ⟨_, rfl⟩
  obtain ⟨Z, eZ⟩ : ∃ Z, inferAll S q.rules = Z := ⟨_, rfl⟩
  unfold checkT at hx
  rw [e0, eZ] at hx
  have C1 := fun W h => hid (ast_check q A R O ch cr co W h HWF.out e0)
  have hfew := fun (h : y0 = 0) => check_few (e0.trans h)
  have HFW := hid hfew
  have hhd := fun (h : y0 = 0) => check_head (e0.trans h)
  have HHD := hid hhd
  have HX := hid hx
  have HZ : Hid (glueA [] (inferAll S (q.rules.drop 0)) = Z) := hid (by rw [glueA_nil]; exact eZ)
  obtain ⟨hHd, hRl, hOr, lh, lr, lo, mh, mr, mo⟩ := hq
  have HRl := hid hRl
  have HHd := hid hHd
  have HRW := hid hwf.rules
  have HHW := hid hwf.head
  have HAV := hid hwf.aggVar
  unfold qryV at C1 ⊢
  obtain ⟨Y, hY, hYd, _⟩ := nm q.aggVar
  simp only [hY] at C1 ⊢
  clear hx e0 eZ hs hwf hws hfew hhd hHd hRl hOr hY
  obtain ⟨hd, ga, av, rs, os⟩ := q
  simp only at *
  have HYd := hid hYd
  clear hYd
  have HB0 : Hid (Below (w.heap.size + 1 + 1) ((w.alloc (.cells #[.slice A hd.length ch, .int .i64 ga, .string Y, .slice R rs.length cr, .slice O os.length co] 26)).alloc (.cells #[.slice none 0 0, .slice none 0 0] 34)) ((w.alloc (.cells #[.slice A hd.length ch, .int .i64 ga, .string Y, .slice R rs.length cr, .slice O os.length co] 26)).alloc (.cells #[.slice none 0 0, .slice none 0 0] 34))) := hid (Below.refl _ _)
  have hb0 := (chk_cells HB0.out).2.2.2.2.2.2.2
  obtain ⟨im, him, hm0, hm1, hm2⟩ := info_parts infoMap
  obtain ⟨ii, hii, ii0, ii1, ii2⟩ := info_parts infoInt
  obtain ⟨iv, hiv, iv0, iv1, iv2⟩ := info_parts infoVar
  obtain ⟨ir, hir, ir0, ir1, ir2⟩ := info_parts infoVrs
  go_enter Try.func13, Try.ntmps13
  go_wp2_with fail
  refine (C1 _ (HQ.out.below hb0)).out.mono ?_
  rintro e w2 ⟨rfl, b2⟩
  have HB2 := hid (HB0.out.trans (b2.mono (by simp)))
  obtain ⟨q0, q1, q2, q3, q4, hz, qlt, hbel⟩ := chk_cells HB2.out
  clear C1 b2 HB0 hb0
  by_cases hy0 : y0 = 0
  · have by0 : (y0 != 0) = false := by simpa using hy0
    have hx := HX.out
    rw [if_neg (by simpa using hy0)] at hx
    have hrl := (HFW.out hy0).1
    have HFw := hid (HFW.out hy0).2
    have hh6 := HHD.out hy0
    have HX1 := hid hx
    clear HX hx HFW HHD hy0
    have hrp : 0 < rs.length := hrl.1
    have hr3 : rs.length ≤ 3 := hrl.2
    go_wp2_with (refine wpList_make_full _ rfl _ _ 84 rfl (w.heap.size + 1 + 1) 68 im (.map none) 1 Try.underlying84 him hm0 hm1 .i64 .i64 _ _ rs.length rfl rfl rfl rfl (by rw [hm2]; omega) (by unfold maxLen; omega) (by omega) ?_; intro w3 hown3 hg3; have HB3 := hid (HB2.out.grown hg3 (by omega) (fun j hj => by cases hj)); obtain ⟨p0, p1, p2, p3, p4, hz3, plt, hbel3⟩ := chk_cells HB3.out)
    have hM0 : Mps w3 (w.heap.size + 1 + 1) w2.heap.size rs.length [] [] := ⟨by
      have h1 : (madeCells (Value.map none).cells (rs.length * 1)).toList = List.replicate rs.length (Value.map none) := by
        rw [Nat.mul_one]; exact toList_madeCells_one _ _
      rw [h1] at hown3
      simpa using hown3, rfl, by simp, fun i hi => absurd hi (by simp)⟩
    have HM0 := hid hM0
    have hg0 : w.heap.size + 1 + 1 ≤ w2.heap.size := by omega
    clear hM0 hown3 hg3 HB2 q0 q1 q2 q3 q4 hz qlt hbel
    go_wp2
    go_loopw [38] (fun i wr => ∃ (k : Nat) (bs : List Nat) (Es : List Env), k ≤ rs.length ∧ i = .int .i64 k ∧ bs.length = k ∧ Hid (Mps wr (w.heap.size + 1 + 1) w2.heap.size rs.length bs Es) ∧ Hid (glueA Es (inferAll S (rs.drop k)) = Z) ∧ Hid (Below (w.heap.size + 1 + 1) ((w.alloc (.cells #[.slice A hd.length ch, .int .i64 ga, .string Y, .slice R rs.length cr, .slice O os.length co] 26)).alloc (.cells #[.slice none 0 0, .slice none 0 0] 34)) wr)) (fun i _ => rs.length - (intOf i).toNat)
    case atStart => exact ⟨0, [], [], by omega, rfl, rfl, HM0, HZ, HB3⟩
    case round =>
      obtain ⟨k, bs, Es, hk, rfl, hbs, HMk, HZk, HBk⟩ := hrel
      clear HM0 HZ HB3 p0 p1 p2 p3 p4 hz3 plt hbel3
      obtain ⟨q0, q1, q2, q3, q4, hz, qlt, hbel⟩ := chk_cells HBk.out
      have hsz := hbel.size
      by_cases hlt : k < rs.length
      · obtain ⟨bb, o, rfl, hc⟩ := HRl.out (by omega)
        obtain ⟨T, ct, T', ct', d0, d1, ha, hcn, _, _, hm1, hm2⟩ := hc k hlt
        replace d0 := cell_keep hbel d0
        replace d1 := cell_keep hbel d1
        have hon := fun E h => glueA_on (S := S) (Es := Es) hlt (E := E) h
        have hbad := fun e E h h2 => glueA_bad (S := S) (Es := Es) hlt (e := e) (E := E) h h2
        have hwr := HRW.out rs[k] (List.getElem_mem hlt)
        have hfr := HFw.out rs[k] (List.getElem_mem hlt)
        obtain ⟨r, er⟩ : ∃ r, rs[k] = r := ⟨_, rfl⟩
        rw [er] at d0 d1 ha hcn hm1 hm2 hon hbad hwr hfr
        obtain ⟨⟨e1, E1⟩, hE1⟩ : ∃ z, inferT S [] r.atoms = z := ⟨_, rfl⟩
        have Cf := fun W h1 h2 => hid (chk_infer r S T T' B ct ct' cs W h1 h2 hfr hwr HWS.out hms hE1)
        have Hon := hid (fun h : e1 = 0 => hon E1 (by rw [hE1, h]))
        have Hbad := hid (fun h : e1 ≠ 0 => hbad e1 E1 hE1 h)
        have hblk := below_one wr (.cells #[.slice T r.atoms.length ct, .slice T' r.conds.length ct'] 46)
        have HA1 := hid (ha.below (hbel.trans (hblk.mono hsz)))
        have HS1 := hid (HS.out.below (hbel.trans (hblk.mono hsz)))
        have HMn := hid (HMk.out.below hblk)
        have HBn := hid (HBk.out.trans (hblk.mono (by omega)))
        obtain ⟨wo, rfl⟩ : ∃ wo : World, wo = wr := ⟨_, rfl⟩
        have hal : (wo.alloc (.cells #[.slice T r.atoms.length ct, .slice T' r.conds.length ct'] 46)).heap.size = wo.heap.size + 1 := by simp
        clear hc er hon hbad hwr hfr hE1 ha hcn HMk HBk hblk
        go_wp2_with fail
        refine (Cf _ HA1.out HS1.out).out.mono ?_
        rintro e w4 ⟨hcase, b4⟩
        have HM4 := hid (HMn.out.below b4)
        have HB4 := hid (HBn.out.trans (b4.mono (by omega)))
        obtain ⟨_, _, _, _, _, hz4, hlt4, hb4⟩ := chk_cells HB4.out
        have hcl : w4.cell? ⟨w2.heap.size, k, none⟩ = some (.map none) := by
          rw [HM4.out.own.cellAt k (by omega), List.getElem?_append_right (by simp; omega)]
          simp only [List.length_map, hbs, Nat.sub_self]
          rw [List.getElem?_replicate]
          simp; omega
        have hfz := HM4.out.frozen k
        clear Cf HA1 HS1 HMn HBn b4 q0 q1 q2 q3 q4 hz qlt d0 d1
        rcases hcase with ⟨h0, bm, m, rfl, hge, hmap⟩ | ⟨h0, rfl⟩
        · have h0 : e1 = 0 := h0
          subst h0
          have hst := HM4.out.store (by omega) hmap
          rw [hbs] at hst
          have HZ2 := hid ((Hon.out rfl).symm.trans HZk.out)
          have HST := hid hst.1
          have hg4 := hst.2
          have HB5 := hid (HB4.out.grown hg4 (by omega) (fun j hj => by injection hj; omega))
          clear hst Hon Hbad HZk HM4 hmap hg4
          go_wp2
          go_roundw
          case rel => exact ⟨k + 1, bs ++ [bm], Es ++ [E1], by omega, by go_num, by simp; omega, HST, HZ2, HB5⟩
          case measure => simp [intOf]; omega
        · have h0 : e1 ≠ 0 := h0
          have be0 : (e1 != 0) = true := by simpa using h0
          have hZ : Z = (e1, []) := ((Hbad.out h0).symm.trans HZk.out).symm
          have hx := HX1.out
          rw [hZ, if_pos (by simpa using h0)] at hx
          subst hx
          have hgn : w4.grownBy (w4.setCell ⟨w2.heap.size, k, none⟩ (.map none)) (some w2.heap.size) := (HM4.out.own.stored k (.map none)).2
          have HB5 := hid (HB4.out.grown hgn (by omega) (fun j hj => by injection hj; omega))
          obtain ⟨_, _, _, _, _, hz5, hlt5, hb5⟩ := chk_cells HB5.out
          clear Hon Hbad HZk HM4 hgn hZ h0
          go_wp2_with (refine wpList_stored rfl rfl rfl rfl hz5 infoTyp rfl rfl ?_; intro wz hz3 hb3)
          refine bodyPost_ret (by simp [results, Try.results13, go_sem, cell_res' hz3]; rfl) rfl ?_
          exact ⟨none, none, 0, 0, rfl, fun h => absurd h (by simp), fun h => absurd h (by simp), by simp, by simp, hb5.trans (hb3.mono (by omega))⟩
      · have hZ : Z = (0, Es) := ((glueA_end hlt).symm.trans HZk.out).symm
        have hx := HX1.out
        rw [hZ, if_neg (by simp)] at hx
        have HX2 := hid hx
        have hEl : Es.length = rs.length := by have := HMk.out.len; omega
        clear hx HX1 HZk hZ
        obtain ⟨V, hV⟩ : ∃ V, verifyAll rs Es = V := ⟨_, rfl⟩
        rw [hV] at HX2
        have HV0 : Hid (verifyAll (rs.drop 0) (Es.drop 0) = V) := hid hV
        clear hV
        go_wp2
        go_loopw [60] (fun i wr => ∃ k : Nat, k ≤ rs.length ∧ i = .int .i64 k ∧ Hid (Mps wr (w.heap.size + 1 + 1) w2.heap.size rs.length bs Es) ∧ Hid (verifyAll (rs.drop k) (Es.drop k) = V) ∧ Hid (Below (w.heap.size + 1 + 1) ((w.alloc (.cells #[.slice A hd.length ch, .int .i64 ga, .string Y, .slice R rs.length cr, .slice O os.length co] 26)).alloc (.cells #[.slice none 0 0, .slice none 0 0] 34)) wr)) (fun i _ => rs.length - (intOf i).toNat)
        case atStart => exact ⟨0, by omega, rfl, HMk, HV0, HBk⟩
        case round =>
          obtain ⟨j, hj, rfl, HMj, HVj, HBj⟩ := hrel
          clear HMk HV0 HBk q0 q1 q2 q3 q4 hz qlt hbel hsz
          obtain ⟨q0, q1, q2, q3, q4, hz, qlt, hbel⟩ := chk_cells HBj.out
          have hsz := hbel.size
          by_cases hjt : j < rs.length
          · obtain ⟨bb, o, rfl, hc⟩ := HRl.out (by omega)
            obtain ⟨T, ct, T', ct', d0, d1, ha, hcn, _, _, hm1, hm2⟩ := hc j hjt
            replace d0 := cell_keep hbel d0
            replace d1 := cell_keep hbel d1
            have hje : j < Es.length := by omega
            have hjb : j < bs.length := by omega
            have hon := fun h => verifyAll_on (l := rs) (Es := Es) hjt hje h
            have hbad := fun h => verifyAll_bad (l := rs) (Es := Es) hjt hje h
            have hwr := HRW.out rs[j] (List.getElem_mem hjt)
            obtain ⟨m, hmap⟩ := HMj.out.mp j hjb
            have hcl := HMj.out.cell hjb
            obtain ⟨r, er⟩ : ∃ r, rs[j] = r := ⟨_, rfl⟩
            obtain ⟨E1, eE⟩ : ∃ E, Es[j] = E := ⟨_, rfl⟩
            obtain ⟨bm, eb⟩ : ∃ b, bs[j] = b := ⟨_, rfl⟩
            rw [er] at d0 d1 ha hcn hm1 hm2 hwr
            rw [er, eE] at hon hbad
            rw [eE, eb] at hmap
            rw [eb] at hcl
            obtain ⟨v1, hv1⟩ : ∃ v, verifyT r E1 = v := ⟨_, rfl⟩
            rw [hv1] at hon hbad
            have Cv := fun W h1 h2 h3 => hid (chk_verify r E1 T T' ct ct' bm m W h1 h2 hwr hm1 hm2 h3 hv1)
            have Hon := hid hon
            have Hbad := hid hbad
            have hblk := below_one wr (.cells #[.slice T r.atoms.length ct, .slice T' r.conds.length ct'] 46)
            have HA1 := hid (ha.below (hbel.trans (hblk.mono hsz)))
            have HC1 := hid (hcn.below (hbel.trans (hblk.mono hsz)))
            have HMp1 := hid (MapAt.below hmap hblk)
            have HMn := hid (HMj.out.below hblk)
            have HBn := hid (HBj.out.trans (hblk.mono (by omega)))
            have c0 : (wr.alloc (.cells #[.slice T r.atoms.length ct, .slice T' r.conds.length ct'] 46)).cell? ⟨wr.heap.size, 0, none⟩ = some (.slice T r.atoms.length ct) := by simp
            have c1 : (wr.alloc (.cells #[.slice T r.atoms.length ct, .slice T' r.conds.length ct'] 46)).cell? ⟨wr.heap.size, 1, none⟩ = some (.slice T' r.conds.length ct') := by simp
            have c2 := cell_keep hblk hcl
            have hal : wr.heap.size + 1 ≤ (wr.alloc (.cells #[.slice T r.atoms.length ct, .slice T' r.conds.length ct'] 46)).heap.size := by simp
            obtain ⟨wo, rfl⟩ : ∃ wo : World, wo = wr := ⟨_, rfl⟩
            clear hc er eE eb hon hbad hwr hv1 ha hcn hmap hcl HMj HBj hblk
            go_wp2
            generalize (wo.alloc (.cells #[.slice T r.atoms.length ct, .slice T' r.conds.length ct'] 46)) = wn at *
            go_still_tail 5, (by kernel_rfl)
            change wpList _ _ _ _ _ wn.drew
            have hdr : Below wn.heap.size wn wn.drew := (Below.refl _ wn).drew
            by_cases h0 : v1 = 0
            · have bv : (v1 != 0) = false := by simpa using h0
              have HV2 := hid ((Hon.out h0).symm.trans HVj.out)
              subst h0
              go_wp2_with fail
              refine (Cv wn.drew (HA1.out.below hdr) (HC1.out.below hdr) (MapAt.below HMp1.out hdr)).out.mono ?_
              rintro e w4 ⟨rfl, b4⟩
              have b5 : Below wn.heap.size wn w4 := hdr.trans b4
              have HM4 := hid (HMn.out.below b5)
              have HB4 := hid (HBn.out.trans (b5.mono (by omega)))
              clear Cv HA1 HC1 HMp1 HMn HBn b4 b5 Hon Hbad HVj
              go_wp2
              go_roundw
              case rel => exact ⟨j + 1, by omega, by go_num, HM4, HV2, HB4⟩
              case measure => simp [intOf]; omega
            · have bv : (v1 != 0) = true := by simpa using h0
              have hv : v1 = V := (Hbad.out h0).symm.trans HVj.out
              have hx := HX2.out
              rw [← hv, if_pos (by simpa using h0)] at hx
              subst hx
              go_wp2_with fail
              refine (Cv wn.drew (HA1.out.below hdr) (HC1.out.below hdr) (MapAt.below HMp1.out hdr)).out.mono ?_
              rintro e w4 ⟨rfl, b4⟩
              have b5 : Below wn.heap.size wn w4 := hdr.trans b4
              have HB4 := hid (HBn.out.trans (b5.mono (by omega)))
              obtain ⟨_, _, _, _, _, hz5, hlt5, hb5⟩ := chk_cells HB4.out
              clear Cv HA1 HC1 HMp1 HMn HBn b4 b5 Hon Hbad HVj HX2 hv h0
              go_wp2_with (refine wpList_stored rfl rfl rfl rfl hz5 infoTyp rfl rfl ?_; intro wz hz3 hb3)
              refine bodyPost_ret (by simp [results, Try.results13, go_sem, cell_res' hz3]; rfl) rfl ?_
              exact ⟨none, none, 0, 0, rfl, fun h => absurd h (by simp), fun h => absurd h (by simp), by simp, by simp, hb5.trans (hb3.mono (by omega))⟩
          · have hV : V = 0 := ((verifyAll_end hjt).symm.trans HVj.out).symm
            have hx := HX2.out
            rw [hV, if_neg (by simp)] at hx
            have HX3 := hid hx
            clear hx HX2 HVj hV
            obtain ⟨E0, hE0⟩ : ∃ E, Es.headD [] = E := ⟨_, rfl⟩
            have hE00 : Es[0]'(by omega) = E0 := by
              rw [← hE0]
              cases Es with
              | nil => simp at hEl; omega
              | cons a l => rfl
            unfold headT at HX3
            simp only [hE0] at HX3
            obtain ⟨PP, hPP⟩ : ∃ P : Env → Bool, (fun E => hd.all fun v => kindE E v == kindE E0 v) = P := ⟨_, rfl⟩
            rw [hPP] at HX3
            have HPP := hid hPP
            have HE0 := hid hE00
            have HE00 := hid hE0
            clear hPP hE0 hE00
            go_wp2
            go_loopw [79] (fun i wr => ∃ k : Nat, k ≤ rs.length ∧ i = .int .i64 k ∧ Hid (Mps wr (w.heap.size + 1 + 1) w2.heap.size rs.length bs Es) ∧ Hid ((Es.take k).all PP = true) ∧ Hid (Below (w.heap.size + 1 + 1) ((w.alloc (.cells #[.slice A hd.length ch, .int .i64 ga, .string Y, .slice R rs.length cr, .slice O os.length co] 26)).alloc (.cells #[.slice none 0 0, .slice none 0 0] 34)) wr)) (fun i _ => rs.length - (intOf i).toNat)
            case atStart => exact ⟨0, by omega, rfl, HMj, hid rfl, HBj⟩
            case round =>
              obtain ⟨i1, hi1, rfl, HMi, HPi, HBi⟩ := hrel
              clear HMj HBj q0 q1 q2 q3 q4 hz qlt hbel hsz
              obtain ⟨q0, q1, q2, q3, q4, hz, qlt, hbel⟩ := chk_cells HBi.out
              have hsz := hbel.size
              by_cases hit : i1 < rs.length
              · have hie : i1 < Es.length := by omega
                have hib : i1 < bs.length := by omega
                have h0b : 0 < bs.length := by omega
                have hsu := all_take_succ PP Es i1 hie
                have hba := all_bad PP Es i1 hie
                rw [HPi.out] at hsu
                obtain ⟨Ei, hEi⟩ : ∃ E, Es[i1] = E := ⟨_, rfl⟩
                obtain ⟨bi, hbi⟩ : ∃ b, bs[i1] = b := ⟨_, rfl⟩
                obtain ⟨b0, hb0⟩ : ∃ b, bs[0] = b := ⟨_, rfl⟩
                rw [hEi] at hsu hba
                rw [← HPP.out] at hsu hba
                obtain ⟨QQ, hQQ⟩ : ∃ P : Str → Bool, (fun v => kindE Ei v == kindE E0 v) = P := ⟨_, rfl⟩
                have hsu2 : (Es.take (i1 + 1)).all PP = hd.all QQ := by rw [← hQQ, ← HPP.out, hsu]; rfl
                have hba2 : hd.all QQ = false → Es.all PP = false := by rw [← hQQ, ← HPP.out]; exact hba
                have HSU := hid hsu2
                have HBA := hid hba2
                have HQQ := hid hQQ
                have HEi := hid hEi
                have HBi2 := hid hbi
                have HB02 := hid hb0
                clear hsu hba hEi hbi hb0 hQQ hsu2 hba2 HPi
                go_wp2
                go_loopw [85] (fun i wr => ∃ j : Nat, j ≤ hd.length ∧ i = .int .i64 j ∧ Hid (Mps wr (w.heap.size + 1 + 1) w2.heap.size rs.length bs Es) ∧ Hid ((hd.take j).all QQ = true) ∧ Hid (Below (w.heap.size + 1 + 1) ((w.alloc (.cells #[.slice A hd.length ch, .int .i64 ga, .string Y, .slice R rs.length cr, .slice O os.length co] 26)).alloc (.cells #[.slice none 0 0, .slice none 0 0] 34)) wr)) (fun i _ => hd.length - (intOf i).toNat)
                case atStart => exact ⟨0, by omega, rfl, HMi, hid rfl, HBi⟩
                case round =>
                  obtain ⟨j1, hj1, rfl, HMl, HQl, HBl⟩ := hrel
                  clear HMi HBi q0 q1 q2 q3 q4 hz qlt hbel hsz
                  obtain ⟨q0, q1, q2, q3, q4, hz, qlt, hbel⟩ := chk_cells HBl.out
                  have hsz := hbel.size
                  by_cases hlt3 : j1 < hd.length
                  · obtain ⟨bh, oh, rfl, hch⟩ := HHd.out (by omega)
                    have d0 := cell_keep hbel (hch j1 hlt3)
                    have hvl := HHW.out hd[j1] (List.getElem_mem hlt3)
                    have hsu := all_take_succ QQ hd j1 hlt3
                    have hba := all_bad QQ hd j1 hlt3
                    rw [HQl.out] at hsu
                    obtain ⟨v, ev⟩ : ∃ v, hd[j1] = v := ⟨_, rfl⟩
                    rw [ev] at d0 hvl hsu hba
                    obtain ⟨X, hX, hXd, _⟩ := nm v
                    rw [hX] at d0
                    have hXs := maxLen_of hXd hvl
                    obtain ⟨m1, hm1⟩ := HMl.out.mp i1 hib
                    obtain ⟨m0, hm0'⟩ := HMl.out.mp 0 h0b
                    have c1 := HMl.out.cell hib
                    have c0 := HMl.out.cell h0b
                    rw [HEi.out, HBi2.out] at hm1
                    rw [HE0.out, HB02.out] at hm0'
                    rw [HBi2.out] at c1
                    rw [HB02.out] at c0
                    obtain ⟨k1, hk1⟩ : ∃ k, kindE Ei v = k := ⟨_, rfl⟩
                    obtain ⟨k0, hk0⟩ : ∃ k, kindE E0 v = k := ⟨_, rfl⟩
                    have hqq : QQ v = (k1 == k0) := by rw [← HQQ.out, ← hk1, ← hk0]
                    have L1 : ∀ n, (Instr.lookup 68 (.map (some bi)) (.string X) false).run Try.prog (wr.drewN n) = .ok (.int .i64 k1) (wr.drewN n) := fun n => by
                      have := MapAt.look (w := wr.drewN n) (hm1.same rfl) EI_ok Try.underlying9 Try.underlying68 X hXs
                      rw [this, hXd, ← hk1]; rfl
                    have L0 : ∀ n, (Instr.lookup 68 (.map (some b0)) (.string X) false).run Try.prog (wr.drewN n) = .ok (.int .i64 k0) (wr.drewN n) := fun n => by
                      have := MapAt.look (w := wr.drewN n) (hm0'.same rfl) EI_ok Try.underlying9 Try.underlying68 X hXs
                      rw [this, hXd, ← hk0]; rfl
                    rw [hqq] at hsu hba
                    have HSU2 := hid hsu
                    have HBA2 := hid hba
                    clear hsu hba ev hX hXd hm1 hm0' hqq hk1 hk0 hch HQl
                    by_cases hk : k1 = k0
                    · have bq : (k1 != k0) = false := by simpa using hk
                      have HQ2 : Hid ((hd.take (j1 + 1)).all QQ = true) := hid (by rw [HSU2.out]; simpa using hk)
                      clear HSU2 HBA2 hk
                      go_wp2
                      go_quiet (fail)
                      have hdr : Below wr.heap.size wr (wr.drewN nq) := below_drewN (Below.refl _ _) _
                      have HM6 := hid (HMl.out.below hdr)
                      have HB6 := hid (HBl.out.trans (hdr.mono (by omega)))
                      go_wp2
                      go_roundw
                      case rel => exact ⟨j1 + 1, by omega, by go_num, HM6, HQ2, HB6⟩
                      case measure => simp [intOf]; omega
                    · have bq : (k1 != k0) = true := by simpa using hk
                      have hf : Es.all PP = false := HBA.out (HBA2.out (by simpa using hk))
                      have hx := HX3.out
                      rw [hf, if_pos rfl] at hx
                      subst hx
                      clear HSU2 HBA2 hk hf HX3 HSU HBA
                      go_wp2
                      go_quiet (fail)
                      have hdr : Below wr.heap.size wr (wr.drewN nq) := below_drewN (Below.refl _ _) _
                      have hbe := hbel.trans (hdr.mono hsz)
                      have hz6 : (wr.drewN nq).heap[w.heap.size + 1]? = some (.cells #[.slice none 0 0, .slice none 0 0] 34) := hz
                      go_wp2_with (refine wpList_stored rfl rfl rfl rfl hz6 infoTyp rfl rfl ?_; intro wz hz3 hb3)
                      refine bodyPost_ret (by simp [results, Try.results13, go_sem, cell_res' hz3]; rfl) rfl ?_
                      exact ⟨none, none, 0, 0, rfl, fun h => absurd h (by simp), fun h => absurd h (by simp), by simp, by simp, hbe.trans (hb3.mono (by omega))⟩
                  · have hall : hd.all QQ = true := by
                      have h1 := HQl.out
                      rw [List.take_of_length_le (by omega)] at h1
                      exact h1
                    have HP2 : Hid ((Es.take (i1 + 1)).all PP = true) := hid (HSU.out.trans hall)
                    clear hall HSU HBA HQl
                    go_wp2
                    go_roundw
                    case rel => exact ⟨i1 + 1, by omega, by go_num, HMl, HP2, HBl⟩
                    case measure => simp [intOf]; omega
              · have hall : Es.all PP = true := by
                  have h1 := HPi.out
                  rw [List.take_of_length_le (by omega)] at h1
                  exact h1
                have hx := HX3.out
                rw [hall, if_neg (by simp)] at hx
                have HX4 := hid hx
                clear hx HX3 hall HPi
                have h0b : 0 < bs.length := by omega
                have c0 := HMi.out.cell h0b
                obtain ⟨b0, hb0⟩ : ∃ b, bs[0] = b := ⟨_, rfl⟩
                rw [hb0] at c0
                have HB02 := hid hb0
                clear hb0
                obtain ⟨bb, hbb⟩ : ∃ b, (decide (ga = 2) && (kindE E0 av != 1)) = b := ⟨_, rfl⟩
                have hx4 : (if bb = true then ((5 : Int), (⟨[], []⟩ : Typ)) else (0, typesOf ⟨hd, ga, av, rs, os⟩ Es)) = x := by
                  have h1 := HX4.out
                  rw [← h1, ← hbb]
                  by_cases h2 : ga = 2
                  · by_cases h3 : kindE E0 av = 1 <;> simp [h2, h3]
                  · simp [h2]
                have HX5 := hid hx4
                have HBB := hid hbb
                have qlt0 : w.heap.size < wr.heap.size := by omega
                clear hbb hx4 HX4
                go_upto_region 30 with fail
                go_cut [115] from 104 to 115 (fun s wx => s = .bool bb ∧ Hid (∃ n, wx = wr.drewN n))
                case first =>
                  by_cases hg2 : ga = 2
                  · have bg : (ga == 2) = true := by simpa using hg2
                    obtain ⟨m0, hm0'⟩ := HMi.out.mp 0 h0b
                    rw [HE0.out, HB02.out] at hm0'
                    obtain ⟨k0, hk0⟩ : ∃ k, kindE E0 av = k := ⟨_, rfl⟩
                    have hYs := maxLen_of HYd.out HAV.out
                    have L0 : ∀ n, (Instr.lookup 68 (.map (some b0)) (.string Y) false).run Try.prog (wr.drewN n) = .ok (.int .i64 k0) (wr.drewN n) := fun n => by
                      have := MapAt.look (w := wr.drewN n) (hm0'.same rfl) EI_ok Try.underlying9 Try.underlying68 Y hYs
                      rw [this, HYd.out, ← hk0]; rfl
                    have hb2 := HBB.out
                    rw [hk0, decide_eq_true hg2, Bool.true_and] at hb2
                    have HB2' := hid hb2
                    clear hm0' hk0 hg2 hb2
                    go_quiet (fail)
                    go_wp2_with fail
                    go_meet
                    exact ⟨by rw [← HB2'.out], hid ⟨_, rfl⟩⟩
                  · have bg : (ga == 2) = false := by simpa using hg2
                    have hb2 := HBB.out
                    rw [decide_eq_false hg2, Bool.false_and] at hb2
                    have HB2' := hid hb2
                    clear hg2 hb2
                    go_quiet (fail)
                    go_wp2_with fail
                    go_meet
                    exact ⟨by rw [← HB2'.out], hid ⟨_, rfl⟩⟩
                case rest =>
                  obtain ⟨rfl, HN⟩ := hcut
                  obtain ⟨nq, hnq⟩ := HN.out
                  have hdr : Below wr.heap.size wr wc := by rw [hnq]; exact below_drewN (Below.refl _ _) _
                  have HMv := hid (HMi.out.below hdr)
                  have HBv := hid (HBi.out.trans (hdr.mono (by omega)))
                  obtain ⟨wv, rfl⟩ : ∃ wv : World, wv = wc := ⟨_, rfl⟩
                  clear HMi HBi q0 q1 q2 q3 q4 hz qlt hbel hsz c0 hdr HN hnq HBB qlt0 HQ HS HWS HWF
                  cases bb
                  · have hx := HX5.out
                    rw [if_neg (by simp)] at hx
                    replace HX5 := hid hx
                    clear hx
                    obtain ⟨q0, q1, q2, q3, q4, hz, qlt, hbel⟩ := chk_cells HBv.out
                    have hblk := below_one wv (.cells #[.slice none 0 0, .slice none 0 0] 34)
                    have qlt0 : w.heap.size < wv.heap.size := by omega
                    have hgB : w2.heap.size < wv.heap.size := HMv.out.lt.2
                    have hbB := HMv.out.bound
                    have HbB := hid hbB
                    have HM7 := hid (HMv.out.below hblk)
                    have HB7 := hid (HBv.out.trans (hblk.mono (by omega)))
                    have HT7 := hid (heap_alloc_new wv (.cells #[.slice none 0 0, .slice none 0 0] 34))
                    have hszv : wv.heap.size + 1 ≤ (wv.alloc (.cells #[.slice none 0 0, .slice none 0 0] 34)).heap.size := by simp
                    clear hblk hbB HBv HMv
                    go_wp2
                    go_loopw [120] (fun i wr => ∃ (j : Nat) (u : Value), j ≤ hd.length ∧ i = .int .i64 j ∧ Hid (wr.heap[wv.heap.size]? = some (.cells #[u, .slice none 0 0] 34 (0, 0))) ∧ Hid (wr.ownsRow (wv.heap.size + 1) 3 1 u j ((hd.take j).map fun v => .int .i64 (kindE E0 v))) ∧ Hid (Mps wr (w.heap.size + 1 + 1) w2.heap.size rs.length bs Es) ∧ Hid (Below (w.heap.size + 1 + 1) ((w.alloc (.cells #[.slice A hd.length ch, .int .i64 ga, .string Y, .slice R rs.length cr, .slice O os.length co] 26)).alloc (.cells #[.slice none 0 0, .slice none 0 0] 34)) wr)) (fun i _ => hd.length - (intOf i).toNat)
                    case atStart => exact ⟨0, .slice none 0 0, by omega, rfl, HT7, hid (World.ownsRow_nil _ _ _ _), HM7, HB7⟩
                    case round =>
                      obtain ⟨j, u, hj, rfl, HT, HU, HMr, HBr⟩ := hrel
                      clear HT7 HM7 HB7 q0 q1 q2 q3 q4 hz qlt hbel hszv
                      obtain ⟨q0, q1, q2, q3, q4, hz, qlt, hbel⟩ := chk_cells HBr.out
                      have hsz := hbel.size
                      by_cases hjt : j < hd.length
                      · obtain ⟨bh, oh, rfl, hch⟩ := HHd.out (by omega)
                        have d0 := cell_keep hbel (hch j hjt)
                        have hvl := HHW.out hd[j] (List.getElem_mem hjt)
                        obtain ⟨v, ev⟩ : ∃ v, hd[j] = v := ⟨_, rfl⟩
                        have htk : (hd.take (j + 1)).map (fun v => Value.int .i64 (kindE E0 v)) = (hd.take j).map (fun v => Value.int .i64 (kindE E0 v)) ++ [.int .i64 (kindE E0 v)] := by rw [List.take_succ_eq_append_getElem hjt, ev, List.map_append]; rfl
                        rw [ev] at d0 hvl
                        obtain ⟨X, hX, hXd, _⟩ := nm v
                        rw [hX] at d0
                        have hXs := maxLen_of hXd hvl
                        obtain ⟨m0, hm0'⟩ := HMr.out.mp 0 h0b
                        have c0 := HMr.out.cell h0b
                        rw [HE0.out, HB02.out] at hm0'
                        rw [HB02.out] at c0
                        obtain ⟨k0, hk0⟩ : ∃ k, kindE E0 v = k := ⟨_, rfl⟩
                        have L0 : (Instr.lookup 68 (.map (some b0)) (.string X) false).run Try.prog wr = .ok (.int .i64 k0) wr := by
                          rw [MapAt.look hm0' EI_ok Try.underlying9 Try.underlying68 X hXs, hXd, ← hk0]; rfl
                        have L1 : (Instr.lookup 68 (.map (some b0)) (.string X) false).run Try.prog wr.drew = .ok (.int .i64 k0) wr.drew := by
                          have := MapAt.look (w := wr.drew) (hm0'.same rfl) EI_ok Try.underlying9 Try.underlying68 X hXs
                          rw [this, hXd, ← hk0]; rfl
                        rw [hk0] at htk
                        have HTK := hid htk
                        have t0 : wr.cell? ⟨wv.heap.size, 0, none⟩ = some u := by rw [cell_res' HT.out]; rfl
                        have t1 : wr.frozen? ⟨wv.heap.size, 0, none⟩ = false := by simp [World.frozen?, HT.out]
                        have htlt : wv.heap.size < wr.heap.size := lt_of_block HT.out
                        clear hch ev hX hXd hm0' hk0 htk
                        go_wp2
                        go_region_law (refine step_append_new_drew Try.underlying31 hii ii0 ii1 ii2 rfl (by decide) (by decide) rfl rfl rfl HU.out rfl rfl rfl (by omega) (by omega) ?_; intro v2 w9 hown2 hg2; obtain ⟨g3, cap3, rfl⟩ := own_slice1 hown2; have hT9 := hid ((hg2.block wv.heap.size htlt (fun e => by have := (HU.out.lt _ e.symm).1; omega)).trans HT.out); have t9 : w9.cell? ⟨wv.heap.size, 0, none⟩ = some u := (by rw [cell_res' hT9.out]; rfl); have f9 : w9.frozen? ⟨wv.heap.size, 0, none⟩ = false := by simp [World.frozen?, hT9.out])
                        all_goals
                          have hg1 : wr.grownBy w9 u.ownBlock := ⟨hg2.os, hg2.tape, hg2.output, hg2.size, hg2.block⟩
                          have hub : ∀ k, u.ownBlock = some k → wv.heap.size + 1 ≤ k := fun k e => (HU.out.lt k e).1
                          have HM9 := HMr.out.grown (t := wv.heap.size) hg1 (fun k e => by have := hub k e; omega) hgB HbB.out
                          have hgs := grown_set w9 ⟨wv.heap.size, 0, none⟩ (.slice (some ⟨g3, 0, none⟩) (j + 1) cap3)
                          have HM10 := hid (HM9.kept hgs hgB HbB.out)
                          have HB9 := HBr.out.grown hg1 (by omega) (fun k e => by have := hub k e; omega)
                          have HB10 := hid (HB9.setCell (p := ⟨wv.heap.size, 0, none⟩) (by show w.heap.size + 1 + 1 ≤ wv.heap.size; omega) (.slice (some ⟨g3, 0, none⟩) (j + 1) cap3))
                          have HT10 := hid (two_set hT9.out (x := .slice (some ⟨g3, 0, none⟩) (j + 1) cap3)).1
                          have hU10 := ownsRow_setCell_other hown2 (a := ⟨wv.heap.size, 0, none⟩) (fun e => by have := (hown2.lt _ e).1; simp at this; omega) (.slice (some ⟨g3, 0, none⟩) (j + 1) cap3)
                          rw [← HTK.out] at hU10
                          have HU10 := hid hU10
                          clear hg1 hub HM9 hgs HB9 hU10 hown2 hg2 hT9 t9 f9
                          go_wp2
                          go_roundw
                          case rel => exact ⟨j + 1, _, by omega, by go_num, HT10, HU10, HM10, HB10⟩
                          case measure => simp [intOf]; omega
                      · have hjn : hd.take j = hd := List.take_of_length_le (by omega)
                        have hjl : j = hd.length := by omega
                        have hU : wr.ownsRow (wv.heap.size + 1) 3 1 u hd.length (hd.map fun v => .int .i64 (kindE E0 v)) := by
                          have h1 := HU.out
                          rw [hjn, hjl] at h1
                          exact h1
                        have HUf := hid hU
                        have htlt : wv.heap.size < wr.heap.size := lt_of_block HT.out
                        clear hjn hjl HU hU
                        obtain ⟨Ls, hLs⟩ : ∃ Ls : List Env, ((rs.zip Es).map fun p => (varsL p.1).map fun v => (v, kindE p.2 v)) = Ls := ⟨_, rfl⟩
                        have hLl : Ls.length = rs.length := by rw [← hLs]; simp; omega
                        have hLk : ∀ k (h : k < rs.length) (h' : k < Es.length) (h'' : k < Ls.length), Ls[k] = (varsL rs[k]).map fun v => (v, kindE Es[k] v) := fun k h h' h'' => by
                          subst hLs; simp
                        have HLs := hid hLs
                        have HLk := hid hLk
                        have HV0 : Hid (wr.ownsRow (wv.heap.size + 1) 62 1 (.slice none 0 0) 0 []) := hid (World.ownsRow_nil _ _ _ _)
                        have HW0 : Hid (UsAt wr (wv.heap.size + 1) [] Ls) := hid ⟨by simp, fun i h => absurd h (by simp)⟩
                        clear hLs hLk
                        go_wp2
                        go_loopw [138] (fun i wr => ∃ (k : Nat) (uR : Value) (us : List Value), k ≤ rs.length ∧ i = .int .i64 k ∧ us.length = k ∧ Hid (wr.heap[wv.heap.size]? = some (.cells #[u, uR] 34 (0, 0))) ∧ Hid (wr.ownsRow (wv.heap.size + 1) 3 1 u hd.length (hd.map fun v => .int .i64 (kindE E0 v))) ∧ Hid (wr.ownsRow (wv.heap.size + 1) 62 1 uR k us) ∧ Hid (UsAt wr (wv.heap.size + 1) us Ls) ∧ Hid (Mps wr (w.heap.size + 1 + 1) w2.heap.size rs.length bs Es) ∧ Hid (Below (w.heap.size + 1 + 1) ((w.alloc (.cells #[.slice A hd.length ch, .int .i64 ga, .string Y, .slice R rs.length cr, .slice O os.length co] 26)).alloc (.cells #[.slice none 0 0, .slice none 0 0] 34)) wr)) (fun i _ => rs.length - (intOf i).toNat)
                        case atStart => exact ⟨0, .slice none 0 0, [], by omega, rfl, rfl, HT, HUf, HV0, HW0, HMr, HBr⟩
                        case round =>
                          obtain ⟨k6, uR, us, hk6, rfl, hus, HTk, HUk, HRk, HLk6, HMk6, HBk6⟩ := hrel
                          clear HT HUf HV0 HW0 HMr HBr q0 q1 q2 q3 q4 hz qlt hbel hsz htlt
                          obtain ⟨q0, q1, q2, q3, q4, hz, qlt, hbel⟩ := chk_cells HBk6.out
                          have hsz := hbel.size
                          have htlt : wv.heap.size < wr.heap.size := lt_of_block HTk.out
                          by_cases hkt : k6 < rs.length
                          · obtain ⟨bb, o, rfl, hc⟩ := HRl.out (by omega)
                            obtain ⟨T, ct, T', ct', d0, d1, ha, hcn, _, _, hm1, hm2⟩ := hc k6 hkt
                            replace d0 := cell_keep hbel d0
                            replace d1 := cell_keep hbel d1
                            have hke : k6 < Es.length := by omega
                            have hkb : k6 < bs.length := by omega
                            have hkl : k6 < Ls.length := by omega
                            have hLe := HLk.out k6 hkt hke hkl
                            have hwr := HRW.out rs[k6] (List.getElem_mem hkt)
                            have hfr := HFw.out rs[k6] (List.getElem_mem hkt)
                            obtain ⟨r, er⟩ : ∃ r, rs[k6] = r := ⟨_, rfl⟩
                            obtain ⟨Ek, eE⟩ : ∃ E, Es[k6] = E := ⟨_, rfl⟩
                            obtain ⟨bk, eb⟩ : ∃ b, bs[k6] = b := ⟨_, rfl⟩
                            rw [er] at d0 d1 ha hcn hm1 hm2 hwr hfr hLe
                            rw [eE] at hLe
                            obtain ⟨V, hV⟩ : ∃ V, varsL r = V := ⟨_, rfl⟩
                            rw [hV] at hLe
                            have hVl : ∀ v ∈ V, v.length ≤ 9223372036854775807 := fun v hv => by rw [← hV] at hv; exact vars_len hwr v hv
                            have hVn : V.length ≤ 100000 := by rw [← hV]; exact vars_short hfr
                            have Cv := fun W h1 h2 => hid (ast_vars2 r T T' ct ct' W h1 h2 hfr hwr hV)
                            have hblk := below_one wr (.cells #[.slice T r.atoms.length ct, .slice T' r.conds.length ct'] 46)
                            have HA1 := hid (ha.below (hbel.trans (hblk.mono hsz)))
                            have HC1 := hid (hcn.below (hbel.trans (hblk.mono hsz)))
                            have hal : wr.heap.size ≤ (wr.alloc (.cells #[.slice T r.atoms.length ct, .slice T' r.conds.length ct'] 46)).heap.size := by simp
                            have HVL := hid hVl
                            have HLE := hid hLe
                            have HEE := hid eE
                            have HEB := hid eb
                            obtain ⟨wo, rfl⟩ : ∃ wo : World, wo = wr := ⟨_, rfl⟩
                            clear hc er eE eb hwr hfr hV hVl hLe ha hcn
                            go_wp2_with fail
                            refine (Cv _ HA1.out HC1.out).out.mono ?_
                            rintro e w7 ⟨Av, cv, Bv, rfl, hBv, hov, b7⟩
                            have b8 : Below wo.heap.size wo w7 := hblk.trans (b7.mono hal)
                            obtain ⟨A9, c9, hA9, hnms, _⟩ := own_names hov
                            injection hA9 with hA9a hA9b hA9c
                            subst hA9a
                            have HNm := hid hnms
                            have HT7 := hid ((b8.block _ htlt).trans HTk.out)
                            have HU7 := hid (own_belowS HUk.out b8)
                            have HR7 := hid (own_belowS HRk.out b8)
                            have HL7 := hid (HLk6.out.below b8)
                            have HM7 := hid (HMk6.out.below b8)
                            have HB7 := hid (HBk6.out.trans (b8.mono (by omega)))
                            have hs7 : wo.heap.size ≤ w7.heap.size := b8.size
                            clear Cv HA1 HC1 hblk hov hnms b7 b8 HTk HUk HRk HLk6 HMk6 HBk6 hA9b hA9c q0 q1 q2 q3 q4 hz qlt hbel d0 d1
                            go_wp2
                            go_loopw [22, 146] (fun uV i wr => ∃ j : Nat, j ≤ V.length ∧ i = .int .i64 j ∧ Hid (wr.ownsRow w7.heap.size 65 2 uV j (vrC ((V.take j).map fun v => (v, kindE Ek v)))) ∧ Hid (Below w7.heap.size w7 wr)) (fun _ i _ => V.length - (intOf i).toNat)
                            case atStart => exact ⟨0, by omega, rfl, hid (World.ownsRow_nil _ _ _ _), hid (Below.refl _ _)⟩
                            case round =>
                              obtain ⟨j7, hj7, rfl, HV7, HB8⟩ := hrel
                              have hs8 := HB8.out.size
                              have HM8 := hid (HM7.out.below HB8.out)
                              by_cases hjt7 : j7 < V.length
                              · obtain ⟨bn, on, rfl, hcn⟩ := HNm.out (by omega)
                                have d0 := cell_keep HB8.out (hcn j7 hjt7)
                                have hvl := HVL.out V[j7] (List.getElem_mem hjt7)
                                obtain ⟨v, ev⟩ : ∃ v, V[j7] = v := ⟨_, rfl⟩
                                have htk : vrC ((V.take (j7 + 1)).map fun v => (v, kindE Ek v)) = vrC ((V.take j7).map fun v => (v, kindE Ek v)) ++ [.string ⟨v.toArray⟩, .int .i64 (kindE Ek v)] := by rw [List.take_succ_eq_append_getElem hjt7, ev, List.map_append, List.map_singleton, vrC_snoc]
                                rw [ev] at d0 hvl
                                obtain ⟨X, hX, hXd, _⟩ := nm v
                                rw [hX] at d0 htk
                                have hXs := maxLen_of hXd hvl
                                obtain ⟨m0, hm0'⟩ := HM8.out.mp k6 hkb
                                have c0 := HM8.out.cell hkb
                                rw [HEE.out, HEB.out] at hm0'
                                rw [HEB.out] at c0
                                obtain ⟨k0, hk0⟩ : ∃ k, kindE Ek v = k := ⟨_, rfl⟩
                                have hv0 : EI.R ((getE Ek X.data.toList).getD EI.zero) = .int .i64 k0 := by rw [hXd, ← hk0]; rfl
                                rw [hk0] at htk
                                have HTK := hid htk
                                have HVv := hid hv0
                                have HMm := hid hm0'
                                clear hcn ev hX hXd hm0' hk0 htk hv0
                                go_wp2_with (first
                                  | (at_lookup; refine wpList_look rfl _ _ rfl HMm.out EI_ok Try.underlying9 Try.underlying68 rfl X rfl hXs (.int .i64 k0) HVv.out ?_)
                                  | (at_builtin; refine wpList_append_new2 Try.underlying62 hiv iv0 iv1 iv2 rfl (by decide) (by decide) rfl rfl rfl HV7.out rfl (by simp) rfl rfl (by omega) (by omega) ?_; intro v9 w9 hown9 hg9))
                                rw [← HTK.out] at hown9
                                have hb9 := hid (HB8.out.grown hg9 (by omega) (fun k e => (HV7.out.lt k e).1))
                                have ho9 := hid hown9
                                clear hown9 hg9
                                go_roundw
                                case rel => exact ⟨j7 + 1, by omega, by go_num, ho9, hb9⟩
                                case measure => simp [intOf]; omega
                              · have hjn : V.take j7 = V := List.take_of_length_le (by omega)
                                have hjl : j7 = V.length := by omega
                                have hV9 : wr.ownsRow w7.heap.size 65 2 u22 Ls[k6].length (vrC Ls[k6]) := by
                                  have h1 := HV7.out
                                  rw [hjn, hjl] at h1
                                  rw [HLE.out, List.length_map]
                                  exact h1
                                obtain ⟨A9, c9, hA9, _, _⟩ := own_vars hV9
                                subst hA9
                                have HV9 := hid (own_mono hV9 (show wv.heap.size + 1 ≤ w7.heap.size by omega))
                                have HT8 := hid ((HB8.out.block _ (by omega : wv.heap.size < w7.heap.size)).trans HT7.out)
                                have HU8 := hid (own_belowS HU7.out HB8.out)
                                have HR8 := hid (own_belowS HR7.out HB8.out)
                                have HL8 := hid (HL7.out.below HB8.out)
                                have HB9 := hid (HB7.out.trans (HB8.out.mono (by omega)))
                                have htlt2 : wv.heap.size < wr.heap.size := lt_of_block HT8.out
                                have t0 : wr.cell? ⟨wv.heap.size, 1, none⟩ = some uR := by rw [cell_res' HT8.out]; rfl
                                have t1 : wr.frozen? ⟨wv.heap.size, 1, none⟩ = false := by simp [World.frozen?, HT8.out]
                                clear hjn hjl hV9 HV7 HT7 HU7 HR7 HL7 HM7 HB7 HNm HLE
                                go_wp2_with (at_builtin; refine wpList_append_new2 Try.underlying32 hir ir0 ir1 ir2 rfl (by decide) (by decide) rfl rfl rfl HR8.out rfl (by simp) rfl rfl (by omega) (by omega) ?_; intro v9 w9 hown9 hg9; obtain ⟨g9, cap9, rfl⟩ := own_slice1 hown9; have hT9 := hid ((hg9.block wv.heap.size htlt2 (fun e => by have := (HR8.out.lt _ e.symm).1; omega)).trans HT8.out); have t9 : w9.cell? ⟨wv.heap.size, 1, none⟩ = some uR := (by rw [cell_res' hT9.out]; rfl); have f9 : w9.frozen? ⟨wv.heap.size, 1, none⟩ = false := by simp [World.frozen?, hT9.out])
                                have hub : ∀ k, uR.ownBlock = some k → wv.heap.size + 1 ≤ k := fun k e => (HR8.out.lt k e).1
                                have hgs := grown_set w9 ⟨wv.heap.size, 1, none⟩ (.slice (some ⟨g9, 0, none⟩) (k6 + 1) cap9)
                                have HT10 := hid (two_set hT9.out (x := .slice (some ⟨g9, 0, none⟩) (k6 + 1) cap9)).2
                                have hnt : ∀ {B e z n : Nat} {v : Value} {xs : List Value}, w9.ownsRow (wv.heap.size + 1) e z v n xs → v.ownBlock = none ∨ v.ownBlock ≠ some wv.heap.size := fun h => .inr (fun e => by have := (h.lt _ e).1; omega)
                                have HU10 := hid ((HU8.out.kept hg9 (own_apart HU8.out HR8.out (by decide))).kept hgs (.inr (fun e => by have := (HU8.out.lt _ e).1; simp at this; omega)))
                                have hR10 := ownsRow_setCell_other hown9 (a := ⟨wv.heap.size, 1, none⟩) (fun e => by have := (hown9.lt _ e).1; simp at this; omega) (.slice (some ⟨g9, 0, none⟩) (k6 + 1) cap9)
                                have HR10 := hid hR10
                                have hL9 := (HL8.out.kept hg9 (fun i hi => own_apart (HL8.out.2 i hi (by have := HL8.out.1; omega)) HR8.out (by decide))).kept hgs (fun i hi => .inr (fun e => by have := ((HL8.out.2 i hi (by have := HL8.out.1; omega)).lt _ e).1; simp at this; omega))
                                have hV10 := (HV9.out.kept hg9 (own_apart HV9.out HR8.out (by decide))).kept hgs (.inr (fun e => by have := (HV9.out.lt _ e).1; simp at this; omega))
                                have HL10 := hid (hL9.snoc (by omega) (by simp only [hus]; exact hV10))
                                have HM9 := HM8.out.grown (t := wv.heap.size) hg9 (fun k e => by have := hub k e; omega) hgB HbB.out
                                have HM10 := hid (HM9.kept hgs hgB HbB.out)
                                have hB10 := HB9.out.grown hg9 (by omega) (fun k e => by have := hub k e; omega)
                                have HB10 := hid (hB10.setCell (p := ⟨wv.heap.size, 1, none⟩) (by show w.heap.size + 1 + 1 ≤ wv.heap.size; omega) (.slice (some ⟨g9, 0, none⟩) (k6 + 1) cap9))
                                clear hub hgs hnt hown9 hg9 hT9 t9 f9 hR10 hL9 hV10 HM9 hB10
                                go_wp2
                                go_roundw
                                case rel => exact ⟨k6 + 1, _, _, by omega, by go_num, by simp; omega, HT10, HU10, HR10, HL10, HM10, HB10⟩
                                case measure => simp [intOf]; omega
                          · have hkn : k6 = rs.length := by omega
                            obtain ⟨AH, cH, hAH, hKH, hcH⟩ := own_kinds (l := hd.map (kindE E0)) (by rw [List.length_map, List.map_map]; exact HUk.out)
                            rw [List.length_map] at hAH hcH
                            have hR6 := HRk.out
                            rw [← hus] at hR6
                            obtain ⟨AR, cR, hAR, hKR, hcR⟩ := HLk6.out.at (by omega) hR6
                            subst hAH hAR
                            have hx := HX5.out
                            have hty : typesOf ⟨hd, ga, av, rs, os⟩ Es = ⟨hd.map (kindE E0), Ls⟩ := by
                              unfold typesOf
                              rw [HE00.out, HLs.out]
                            rw [hty] at hx
                            subst hx
                            have t0 : wr.cell? ⟨wv.heap.size, 0, none⟩ = some (.slice AH hd.length cH) := by rw [cell_res' HTk.out]; rfl
                            have t1 : wr.cell? ⟨wv.heap.size, 1, none⟩ = some (.slice AR Ls.length cR) := by rw [cell_res' HTk.out]; rfl
                            have HR6 := hid hR6
                            clear hKH hKR hR6 hty HTk HRk HMk6 hkn
                            go_wp2_with (refine wpList_stored2 rfl rfl rfl rfl hz infoTyp rfl rfl ?_; intro wz hz3 hg3)
                            refine bodyPost_ret (by simp [results, Try.results13, go_sem, cell_res' hz3]; rfl) rfl ?_
                            have hne : ∀ {e z n : Nat} {v : Value} {xs : List Value}, wr.ownsRow (wv.heap.size + 1) e z v n xs → v.ownBlock = none ∨ v.ownBlock ≠ some (w.heap.size + 1) := fun h => .inr (fun e => by have := (h.lt _ e).1; omega)
                            have hU9 : wz.ownsRow (wv.heap.size + 1) 3 1 (.slice AH hd.length cH) (hd.map (kindE E0)).length ((hd.map (kindE E0)).map (.int .i64)) := by rw [List.length_map, List.map_map]; exact HUk.out.kept hg3 (hne HUk.out)
                            obtain ⟨AH2, cH2, hAH2, hKH2, hcH2⟩ := own_kinds hU9
                            obtain ⟨AR2, cR2, hAR2, hKR2, hcR2⟩ := (HLk6.out.kept hg3 (fun i hi => .inr (fun e => by have := ((HLk6.out.2 i hi (by omega)).lt _ e).1; omega))).at (by rw [hus, hLl]; omega) (HR6.out.kept hg3 (hne HR6.out))
                            rw [List.length_map] at hAH2
                            injection hAH2 with e1 e2 e3
                            injection hAR2 with e4 e5 e6
                            subst e1 e3 e4 e6
                            exact ⟨AH, AR, cH, cR, by simp [hLl], hKH2, hKR2, by simpa using hcH, hcR, hbel.grown hg3 (by omega) (fun k e => by injection e; omega)⟩
                  · have hx := HX5.out
                    rw [if_pos rfl] at hx
                    subst hx
                    obtain ⟨_, _, _, _, _, hz7, hlt7, hb7⟩ := chk_cells HBv.out
                    clear HX5
                    go_wp2_with (refine wpList_stored rfl rfl rfl rfl hz7 infoTyp rfl rfl ?_; intro wz hz3 hb3)
                    refine bodyPost_ret (by simp [results, Try.results13, go_sem, cell_res' hz3]; rfl) rfl ?_
                    exact ⟨none, none, 0, 0, rfl, fun h => absurd h (by simp), fun h => absurd h (by simp), by simp, by simp, hb7.trans (hb3.mono (by omega))⟩
  · have by0 : (y0 != 0) = true := by simpa using hy0
    have hx := HX.out
    rw [if_pos (by simpa using hy0)] at hx
    subst hx
    clear HX hy0
    go_wp2_with (refine wpList_stored rfl rfl rfl rfl hz infoTyp rfl rfl ?_; intro wz hz3 hb3)
    refine bodyPost_ret (by simp [results, Try.results13, go_sem, cell_res' hz3]; rfl) rfl ?_
    exact ⟨none, none, 0, 0, rfl, fun h => absurd h (by simp), fun h => absurd h (by simp), by simp, by simp, hbel.trans (hb3.mono (by omega))⟩
end Go.Proofs.Ytgeapgbebbapmaa
