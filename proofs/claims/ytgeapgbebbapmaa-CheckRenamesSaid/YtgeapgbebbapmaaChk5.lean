/-
  WALK: check.verify.
-/
import Derived.Test.YtgeapgbebbapmaaChk4
namespace Go.Proofs.Ytgeapgbebbapmaa
open Go.RowKit

theorem negE_pos {l : List Atm} {a : Atm} (h : a.neg = false) : negE l a = 0 := by unfold negE; rw [if_neg (by rw [h]; simp)]
theorem negE_neg {l : List Atm} {a : Atm} (h : a.neg = true) : negE l a = (gRes (guardG l a)).2 := by
  unfold negE gRes
  cases hg : guardG l a <;> simp [h]

set_option maxRecDepth 100000 in
set_option maxHeartbeats 8000000 in
theorem chk_verify (r : Rul) (E : Env) (T T' : Option Addr) (c c' bm n : Nat) (w : World) (ha : AtmsAt w T r.atoms) (hcn : CndsAt w T' r.conds) (hwf : r.wf) (hm : r.atoms.length ≤ 9223372036854775807) (hm' : r.conds.length ≤ 9223372036854775807) (hmap : KMapAt w bm n E) {x : Int} (hx : verifyT r E = x) :
    Calls Try.prog 23 #[.agg #[.slice T r.atoms.length c, .slice T' r.conds.length c'], .map (some bm)] w fun e w' => e = .returned (.int .i64 x) ∧ Below w.heap.size w w' := by
  have HX : Hid ((if firstE (condT E) r.conds = 0 then firstE (negE r.atoms) r.atoms else firstE (condT E) r.conds) = x) := hid hx
  have HG := fun (i : Nat) W h => hid (chk_guard r T T' c c' i W h hm hwf rfl)
  have HA := hid ha
  have HC := hid hcn
  have HM := hid hmap
  have HCw := hid hwf.conds
  have hgi := fun (j : Nat) (h : j < r.atoms.length) a (ha : r.atoms[j] = a) => guardR_in h ha
  have HGI := hid hgi
  clear hx ha hcn hmap hwf hgi
  obtain ⟨ats, cds⟩ := r
  simp only at *
  have HB : Hid (Below (w.heap.size + 1) (w.alloc (.cells #[.slice T ats.length c, .slice T' cds.length c'] 46)) (w.alloc (.cells #[.slice T ats.length c, .slice T' cds.length c'] 46))) := hid (Below.refl _ _)
  go_enter Try.func23, Try.ntmps23
  go_wp2
  go_loopw [14] (fun i wr => ∃ k : Nat, k ≤ cds.length ∧ i = .int .i64 k ∧ Hid (firstE (condT E) cds = firstE (condT E) (cds.drop k)) ∧ Hid (Below (w.heap.size + 1) (w.alloc (.cells #[.slice T ats.length c, .slice T' cds.length c'] 46)) wr)) (fun i _ => cds.length - (intOf i).toNat)
  case atStart => exact ⟨0, by omega, rfl, hid rfl, HB⟩
  case round =>
    obtain ⟨k, hk, rfl, HK, HBk⟩ := hrel
    clear HB
    obtain ⟨q0, q1, qlt, hbel⟩ := rul_cells HBk.out
    have hsz := hbel.size
    by_cases hlt : k < cds.length
    · obtain ⟨bb, o, rfl, hc⟩ := HC.out (by omega)
      obtain ⟨d0, d1, d2, d3, d4⟩ := hc k hlt
      replace d0 := cell_keep hbel d0
      replace d1 := cell_keep hbel d1
      replace d2 := cell_keep hbel d2
      replace d3 := cell_keep hbel d3
      replace d4 := cell_keep hbel d4
      have hon := fun h => firstE_on (f := condT E) hlt h
      have hat := fun h => firstE_at (f := condT E) hlt h
      have hwv := (HCw.out cds[k] (List.getElem_mem hlt)).v
      generalize cds[k] = t at *
      obtain ⟨v, op, ⟨ck, cn, ct⟩⟩ := t
      simp only at *
      obtain ⟨Z, hZ, hZd, _⟩ := nm v
      rw [hZ] at d0
      have hZs := maxLen_of hZd hwv
      have HMn := hid ((MapAt.below HM.out hbel).alloc (.cells #[.string Z, .int .i64 op, .int .i64 ck, .int .i64 cn, .string ct] 79))
      have HBn := hid (HBk.out.alloc (by omega) (.cells #[.string Z, .int .i64 op, .int .i64 ck, .int .i64 cn, .string ct] 79))
      obtain ⟨q, hq⟩ : ∃ q, kindE E v = q := ⟨_, rfl⟩
      have hv0 : EI.R ((getE E Z.data.toList).getD EI.zero) = .int .i64 q := by rw [hZd, ← hq]; rfl
      have HV0 := hid hv0
      have HKo := HK.out
      by_cases he : ck = q
      · have h0 : condT E ⟨v, op, ⟨ck, cn, ct⟩⟩ = 0 := by unfold condT; rw [if_pos (by rw [hq]; exact he)]
        have HN := hid (HKo.trans (hon h0))
        have bq : (ck != q) = false := by simpa using he
        clear hc hon hat hZ hZd hq hv0 HK HKo h0 he HBk
        go_wp2_with (at_lookup; refine wpList_look rfl _ _ rfl HMn.out EI_ok Try.underlying9 Try.underlying68 rfl Z rfl hZs (.int .i64 q) HV0.out ?_)
        go_roundw
        case rel => exact ⟨k + 1, by omega, by go_num, HN, HBn⟩
        case measure => simp [intOf]; omega
      · have h5 : condT E ⟨v, op, ⟨ck, cn, ct⟩⟩ = 5 := by unfold condT; rw [if_neg (by rw [hq]; exact he)]
        have h1 := hat (by rw [h5]; decide)
        have hx : 5 = x := by
          have h2 := HX.out
          rw [HKo, h1, h5, if_neg (by decide)] at h2
          exact h2
        subst hx
        have bq : (ck != q) = true := by simpa using he
        obtain ⟨_, _, _, hbe⟩ := rul_cells HBn.out
        clear hc hon hat hZ hZd hq hv0 HK HKo h5 h1 he HBk
        go_wp2_with (at_lookup; refine wpList_look rfl _ _ rfl HMn.out EI_ok Try.underlying9 Try.underlying68 rfl Z rfl hZs (.int .i64 q) HV0.out ?_)
        go_ret
        exact ⟨rfl, hbe⟩
    · have h0 : firstE (condT E) cds = 0 := HK.out.trans (firstE_end hlt)
      have HX2 : Hid (firstE (negE ats) (ats.drop 0) = x) := hid (by have h2 := HX.out; rw [if_pos h0] at h2; exact h2)
      clear HX HK h0
      go_wp2
      go_loopw [30] (fun i wr => ∃ j : Nat, j ≤ ats.length ∧ i = .int .i64 j ∧ Hid (firstE (negE ats) (ats.drop j) = x) ∧ Hid (Below (w.heap.size + 1) (w.alloc (.cells #[.slice T ats.length c, .slice T' cds.length c'] 46)) wr)) (fun i _ => ats.length - (intOf i).toNat)
      case atStart => exact ⟨0, by omega, rfl, HX2, HBk⟩
      case round =>
        obtain ⟨j, hj, rfl, HJ, HBj⟩ := hrel
        clear HX2 HBk q0 q1 qlt hbel hsz
        obtain ⟨q0, q1, qlt, hbel⟩ := rul_cells HBj.out
        have hsz := hbel.size
        by_cases hjt : j < ats.length
        · obtain ⟨bb, o, eT, hc⟩ := HA.out (by omega)
          obtain ⟨Q, qc, d0, d1, d2, hq, hql, hqm⟩ := hc j hjt
          replace d0 := cell_keep hbel d0
          replace d1 := cell_keep hbel d1
          replace d2 := cell_keep hbel d2
          have hon := fun h => firstE_on (f := negE ats) hjt h
          have hat := fun h => firstE_at (f := negE ats) hjt h
          obtain ⟨a, ea⟩ : ∃ a, ats[j] = a := ⟨_, rfl⟩
          have hgi := HGI.out j hjt a ea
          rw [ea] at d0 d1 d2 hon hat
          have hne := fun h => negE_pos (l := ats) (a := a) h
          have hng := fun h => negE_neg (l := ats) (a := a) h
          have Hon := hid hon
          have Hat := hid hat
          have Hne := hid hne
          have Hng := hid hng
          have Hgi := hid hgi
          have HAw := HA
          obtain rfl := eT
          clear hc ea hon hat hne hng hgi hq
          obtain ⟨an, ar, ts⟩ := a
          simp only at *
          obtain ⟨Y, hY, _, _⟩ := nm ar
          rw [hY] at d1
          have hblk := below_one wr (.cells #[.bool an, .string Y, .slice Q ts.length qc] 51)
          have HBn := hid (HBj.out.alloc (by omega) (.cells #[.bool an, .string Y, .slice Q ts.length qc] 51))
          have HA1 := hid (HA.out.below (hbel.trans (hblk.mono hsz)))
          have q0n := cell_keep hblk q0
          have q1n := cell_keep hblk q1
          clear hY hblk HBj
          cases an
          · have HN := hid ((Hon.out (Hne.out rfl)).symm.trans HJ.out)
            clear Hon Hat Hne Hng Hgi HJ
            go_wp2
            go_roundw
            case rel => exact ⟨j + 1, by omega, by go_num, HN, HBn⟩
            case measure => simp [intOf]; omega
          · have hg2 := Hgi.out
            rw [if_neg (by simp)] at hg2
            obtain ⟨g, hgd⟩ : ∃ g, gRes (guardG ats ⟨true, ar, ts⟩) = g := ⟨_, rfl⟩
            rw [hgd] at hg2
            have C1 := fun W h => (HG j W h).out
            rw [hg2] at C1
            have hn2 := Hng.out rfl
            rw [hgd] at hn2
            obtain ⟨g1, g2⟩ := g
            simp only at C1 hn2
            have C2 := fun W h => hid (C1 W h)
            by_cases h0 : g2 = 0
            · have HN := hid ((Hon.out (hn2.trans h0)).symm.trans HJ.out)
              have bq : (g2 != 0) = false := by simpa using h0
              clear Hon Hat Hne Hng Hgi HJ hg2 hgd C1 hn2 h0 HG
              go_wp2_with fail
              refine (C2 _ HA1.out).out.mono ?_
              rintro e w3 ⟨rfl, b3⟩
              have HB3 := hid (HBn.out.trans (b3.mono (by simp; omega)))
              clear b3 C2 HBn HA1
              go_wp2
              go_roundw
              case rel => exact ⟨j + 1, by omega, by go_num, HN, HB3⟩
              case measure => simp [intOf]; omega
            · have hx : g2 = x := hn2.symm.trans ((Hat.out (by rw [hn2]; exact h0)).symm.trans HJ.out)
              subst hx
              have bq : (g2 != 0) = true := by simpa using h0
              clear Hon Hat Hne Hng Hgi HJ hg2 hgd C1 hn2 h0 HG
              go_wp2_with fail
              refine (C2 _ HA1.out).out.mono ?_
              rintro e w3 ⟨rfl, b3⟩
              have HB3 := hid (HBn.out.trans (b3.mono (by simp; omega)))
              obtain ⟨_, _, _, hbe⟩ := rul_cells HB3.out
              clear b3 C2 HBn HA1
              go_wp2
              go_ret
              exact ⟨rfl, hbe⟩
        · have hx : 0 = x := (firstE_end hjt).symm.trans HJ.out
          subst hx
          clear HJ
          go_wp2
          go_ret
          exact ⟨rfl, hbel⟩
end Go.Proofs.Ytgeapgbebbapmaa
