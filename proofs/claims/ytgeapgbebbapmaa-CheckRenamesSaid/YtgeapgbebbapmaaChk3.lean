/-
  WALK: check.Guard.
-/
import Derived.Test.YtgeapgbebbapmaaChk2
namespace Go.Proofs.Ytgeapgbebbapmaa
open Go.RowKit

/-- A rule's block keeps its cells. -/
theorem rul_cells {w w' : World} {v0 v1 : Value} {t : TypeId} (h : Below (w.heap.size + 1) (w.alloc (.cells #[v0, v1] t)) w') :
    w'.cell? ⟨w.heap.size, 0, none⟩ = some v0 ∧ w'.cell? ⟨w.heap.size, 1, none⟩ = some v1 ∧ w.heap.size < w'.heap.size ∧ Below w.heap.size w w' := by
  refine ⟨(h.cell (p := ⟨w.heap.size, 0, none⟩) (by simp)).trans (by simp), (h.cell (p := ⟨w.heap.size, 1, none⟩) (by simp)).trans (by simp), ?_, (below_one w _).trans (h.mono (by omega))⟩
  have := h.size
  simp at this
  omega
def RB (T : Option Addr) (n c : Nat) (T' : Option Addr) (n' c' : Nat) : Obj := .cells #[.slice T n c, .slice T' n' c'] 46
theorem guardR_out {r : Rul} {i : Int} (h : i < 0 ∨ (r.atoms.length : Int) ≤ i) : guardR r i = (0, 3) := by unfold guardR; rw [if_pos h]
theorem guardR_in {r : Rul} {j : Nat} (h : j < r.atoms.length) {a : Atm} (ha : r.atoms[j] = a) : guardR r j = if a.neg = false then (0, 2) else gRes (guardG r.atoms a) := by
  unfold guardR
  rw [if_neg (by omega)]
  rw [show ((j : Int)).toNat = j by omega, List.getElem?_eq_getElem h, ha]

set_option maxRecDepth 100000 in
set_option maxHeartbeats 8000000 in
theorem chk_guard (r : Rul) (T T' : Option Addr) (c c' : Nat) (i : Int) (w : World) (ha : AtmsAt w T r.atoms) (hm : r.atoms.length ≤ 9223372036854775807) (hwf : r.wf) {x : Int × Int} (hx : guardR r i = x) :
    Calls Try.prog 16 #[.agg #[.slice T r.atoms.length c, .slice T' r.conds.length c'], .int .i64 i] w fun e w' => e = .returned (.tuple #[.int .i64 x.1, .int .i64 x.2]) ∧ Below w.heap.size w w' := by
  have hb0 := below_one w (.cells #[.slice T r.atoms.length c, .slice T' r.conds.length c'] 46)
  by_cases h0 : i < 0
  · rw [guardR_out (.inl h0)] at hx
    subst hx
    go_enter Try.func16, Try.ntmps16
    go_wp2
    go_step3
    go_wp2
    try rw [Exit.noGoto_ret]
    go_ret2
    exact ⟨rfl, hb0⟩
  · by_cases hlen : (r.atoms.length : Int) ≤ i
    · rw [guardR_out (.inr hlen)] at hx
      subst hx
      go_enter Try.func16, Try.ntmps16
      go_wp2
      go_step3
      go_wp2
      try rw [Exit.noGoto_ret]
      go_ret2
      exact ⟨rfl, hb0⟩
    · obtain ⟨j, hj⟩ : ∃ j : Nat, i = j := ⟨i.toNat, by omega⟩
      subst hj
      have hjl : j < r.atoms.length := by omega
      obtain ⟨a, hja⟩ : ∃ a, r.atoms[j] = a := ⟨_, rfl⟩
      rw [guardR_in hjl hja] at hx
      have HA := hid ha
      have HW := hid hwf.atoms
      obtain ⟨ats, cds⟩ := r
      simp only at *
      obtain ⟨bb, o, rfl, hc⟩ := ha (by omega)
      obtain ⟨Q, qc, d0, d1, d2, hq, hql, hqm⟩ := hc j hjl
      have hwa := HW.out ats[j] (List.getElem_mem hjl)
      rw [hja] at d0 d1 d2 hq hql hqm hwa
      have HWa := hid hwa
      clear hc hja ha hwa hwf
      have e0 := cell_keep hb0 d0
      have e1 := cell_keep hb0 d1
      have e2 := cell_keep hb0 d2
      cases hn : a.neg
      · rw [hn, if_pos rfl] at hx
        subst hx
        rw [hn] at e0
        clear d0 d1 d2 hq hlen h0
        go_enter Try.func16, Try.ntmps16
        go_wp2
        go_step3
        go_wp2
        try rw [Exit.noGoto_ret]
        go_ret2
        exact ⟨rfl, hb0⟩
      · rw [hn, if_neg (by simp)] at hx
        have HX : Hid (gRes (guardFrom ats a 0) = x) := hid (by rw [guardFrom_zero]; exact hx)
        obtain ⟨an, ar, ts⟩ := a
        simp only at hn
        subst hn
        simp only at *
        obtain ⟨Y, hY, _, _⟩ := nm ar
        have C1 := fun W h => hid (chk_variables ⟨true, ar, ts⟩ Q qc W h hqm HWa.out)
        simp only [hY] at C1
        rw [hY] at e1
        have HQ := hid (hq.below hb0)
        have HB0 : Hid (Below (w.heap.size + 1) (w.alloc (.cells #[.slice (some ⟨bb, o, none⟩) ats.length c, .slice T' cds.length c'] 46)) (w.alloc (.cells #[.slice (some ⟨bb, o, none⟩) ats.length c, .slice T' cds.length c'] 46))) := hid (Below.refl _ _)
        clear d0 d1 d2 hq hlen h0 hx
        go_enter Try.func16, Try.ntmps16
        go_wp2
        go_step3
        go_wp2_with fail
        refine (C1 _ HQ.out).out.mono ?_
        rintro e w1 ⟨bN, nN, SN, rfl, hbN, hsetN, hmemN, b1⟩
        have HB1 := hid (HB0.out.trans (b1.mono (by simp)))
        obtain ⟨q0, q1, qlt, hbel⟩ := rul_cells HB1.out
        have HSN := hid hsetN
        have HMN := hid hmemN
        clear C1 HQ HB0 b1 hsetN hmemN e0 e1 e2
        go_wp2
        go_step3
        go_wp2
        go_loopw [7, 8, 38] (fun s7 s8 i wr => ∃ k : Nat, k ≤ ats.length ∧ s7 = .int .i64 0 ∧ s8 = .int .i64 23 ∧ i = .int .i64 k ∧ Hid (gRes (guardFrom ats ⟨true, ar, ts⟩ k) = x) ∧ Hid (SetAt wr bN nN SN) ∧ Hid (Below (w.heap.size + 1) (w.alloc (.cells #[.slice (some ⟨bb, o, none⟩) ats.length c, .slice T' cds.length c'] 46)) wr)) (fun _ _ i _ => ats.length - (intOf i).toNat)
        case atStart => exact ⟨0, by omega, rfl, rfl, rfl, HX, HSN, HB1⟩
        case round =>
          obtain ⟨k, hk, rfl, rfl, rfl, HXk, HSk, HBk⟩ := hrel
          clear HX HSN HB1 q0 q1 qlt hbel
          obtain ⟨q0, q1, qlt, hbel⟩ := rul_cells HBk.out
          have hsz := hbel.size
          by_cases hlt : k < ats.length
          · obtain ⟨bb', o', eA, hc⟩ := HA.out (by omega)
            injection eA with eA
            injection eA with e1 e2
            subst e1 e2
            obtain ⟨Q2, qc2, d0, d1, d2, hq2, hql2, hqm2⟩ := hc k hlt
            replace d0 := cell_keep hbel d0
            replace d1 := cell_keep hbel d1
            replace d2 := cell_keep hbel d2
            replace hq2 := hq2.below hbel
            have hwb := HW.out ats[k] (List.getElem_mem hlt)
            have hon := fun h => guardFrom_on (a := ⟨true, ar, ts⟩) hlt h
            have hat := fun h => guardFrom_at (a := ⟨true, ar, ts⟩) hlt h
            obtain ⟨b, eb⟩ : ∃ b, ats[k] = b := ⟨_, rfl⟩
            rw [eb] at d0 d1 d2 hq2 hql2 hqm2 hwb hon hat
            have hgi := guards_iff ⟨true, ar, ts⟩ b
            have Hon := hid hon
            have Hat := hid hat
            have Hgi := hid hgi
            have HWb := hid hwb
            clear hc eb hon hat hgi hwb
            obtain ⟨bn, br, bts⟩ := b
            simp only at *
            obtain ⟨Z, hZ, _, _⟩ := nm br
            rw [hZ] at d1
            have hblk := below_one wr (.cells #[.bool bn, .string Z, .slice Q2 bts.length qc2] 51)
            have HBn := hid (HBk.out.alloc (by omega) (.cells #[.bool bn, .string Z, .slice Q2 bts.length qc2] 51))
            have HSn := hid (HSk.out.alloc (.cells #[.bool bn, .string Z, .slice Q2 bts.length qc2] 51))
            cases bn
            · have C2 := fun W h => hid (chk_variables ⟨false, br, bts⟩ Q2 qc2 W h hqm2 HWb.out)
              simp only [hZ] at C2
              have HQ2 := hid (hq2.below hblk)
              obtain ⟨wo, rfl⟩ : ∃ wo : World, wo = wr := ⟨_, rfl⟩
              clear hq2 hblk HBk HSk hZ
              go_wp2_with fail
              refine (C2 _ HQ2.out).out.mono ?_
              rintro e w3 ⟨bP, nP, SP, rfl, hbP, hsetP, hmemP, b3⟩
              have HB3 := hid (HBn.out.trans (b3.mono (by simp; omega)))
              have HS3 := hid (MapAt.below HSn.out b3)
              have HSP := hid hsetP
              have HMP := hid hmemP
              have hs3 : w.heap.size + 1 ≤ w3.heap.size := by have := b3.size; simp at this; omega
              clear C2 HQ2 HBn HSn b3 hsetP hmemP
              go_wp2_with (at_range; refine wpList_rangeMap rfl _ rfl HS3.out Try.underlying9 Try.underlying59 rfl ?_; intro w4 cnt4 hr4 hg4 hs4)
              have HB4 := hid (HB3.out.grown hg4 hs3 (fun j hj => by cases hj))
              have HP4 := hid (MapAt.kept HSP.out hg4 (by simp))
              have HR4 := hid hr4
              have hbPl : bP < w3.heap.size := HSP.out.lt
              have hl1 : ∀ v, (setF SN v).isSome = true → v ∈ SN := fun v h => by
                unfold setF at h
                split at h
                · assumption
                · cases h
              have hl2 : ∀ v ∈ SN, (setF SN v).isSome = false → v ∈ SP := fun v hv h => by
                unfold setF at h
                rw [if_pos hv] at h; cases h
              have HL1 := hid hl1
              have HL2 := hid hl2
              clear hr4 hg4 HSP HB3 HS3 hl1 hl2
              go_frame
              go_loopw [12] (fun _ wr => ∃ (Lf : Str → Bool) (cnt : Nat), Hid (RngAt Try.prog 4 9 EB wr bN w3.heap.size nN (setF SN) Lf cnt) ∧ Hid (∀ v, Lf v = true → v ∈ SN) ∧ Hid (∀ v ∈ SN, Lf v = false → v ∈ SP) ∧ Hid (SetAt wr bP nP SP) ∧ Hid (Below (w.heap.size + 1) (w.alloc (.cells #[.slice (some ⟨bb, o, none⟩) ats.length c, .slice T' cds.length c'] 46)) wr)) (fun _ wr => wr.rangeLeft bN w3.heap.size)
              case atStart => exact ⟨_, _, HR4, HL1, HL2, HP4, HB4⟩
              case round =>
                obtain ⟨Lf, cnt, HR, HL1, HL2, HPr, HBr⟩ := hrel
                obtain ⟨_, _, _, hbr⟩ := rul_cells HBr.out
                go_wp2_with (first
                  | (at_next; refine wpList_nextSet rfl _ rfl Try.underlying9 Try.underlying4 rfl HR.out ?_ ?_)
                  | fail)
                · intro hl0
                  have hg : guardsB ⟨true, ar, ts⟩ ⟨false, br, bts⟩ = true := Hgi.out.2 ⟨by trivial, fun v hv => (HMP.out v).1 (HL2.out v ((HMN.out v).2 hv) (hl0 v))⟩
                  have hx : x = ((k : Int), 0) := by rw [← HXk.out, Hat.out hg]; rfl
                  subst hx
                  clear Hon Hat Hgi HXk HL1 HL2 HR hl0 hg
                  go_wp2
                  try rw [Exit.noGoto_ret]
                  go_ret2
                  exact ⟨rfl, hbr⟩
                · intro X cb w5 cnt5 hlX hXs hr5 hlt5 hg5 hs5 hen5
                  have HR5 := hid hr5
                  have hle := HR.out.lt
                  have hs35 : w.heap.size + 1 ≤ wr.heap.size := by omega
                  have HB5 := hid (HBr.out.grown hg5 hs35 (fun j hj => by injection hj; omega))
                  have HP5 := hid (MapAt.kept HPr.out hg5 (fun e => by injection e; omega))
                  have hmeas : w5.rangeLeft bN w3.heap.size < wr.rangeLeft bN w3.heap.size := by rw [hr5.left_eq, HR.out.left_eq]; exact hlt5
                  have HME := hid hmeas
                  obtain ⟨v, hv⟩ : ∃ v, X.data.toList = v := ⟨_, rfl⟩
                  have hin := HL1.out X.data.toList hlX
                  rw [hv] at hin
                  have hlk : EB.R ((setF SP X.data.toList).getD false) = .bool (decide (v ∈ SP)) := by rw [hv, setF_get]; rfl
                  have HV := hid hv
                  have HI := hid hin
                  clear hr5 hg5 hlX hmeas hv hin
                  by_cases hp : v ∈ SP
                  · rw [decide_eq_true hp] at hlk
                    have HLK := hid hlk
                    have HL1' : Hid (∀ z, (Lf z && !(z == X.data.toList)) = true → z ∈ SN) := hid (fun z hz => HL1.out z (by rw [Bool.and_eq_true] at hz; exact hz.1))
                    have HL2' : Hid (∀ z ∈ SN, (Lf z && !(z == X.data.toList)) = false → z ∈ SP) := hid (fun z hz h => by
                      by_cases e : z = v
                      · rw [e]; exact hp
                      · refine HL2.out z hz ?_
                        have e2 : (z == X.data.toList) = false := by rw [HV.out]; simpa using e
                        rw [e2] at h
                        simpa using h)
                    clear hlk hp HL1 HL2
                    go_wp2_with (at_lookup; refine wpList_look rfl _ _ rfl HP5.out EB_ok Try.underlying9 Try.underlying59 rfl X rfl hXs (.bool true) HLK.out ?_)
                    go_roundw
                    case rel => exact ⟨_, _, HR5, HL1', HL2', HP5, HB5⟩
                    case measure => exact HME.out
                  · rw [decide_eq_false hp] at hlk
                    have HLK := hid hlk
                    have hg : guardsB ⟨true, ar, ts⟩ ⟨false, br, bts⟩ = false := by
                      cases hgb : guardsB ⟨true, ar, ts⟩ ⟨false, br, bts⟩
                      · rfl
                      · exact absurd ((HMP.out v).2 ((Hgi.out.1 hgb).2 v ((HMN.out v).1 HI.out))) hp
                    have HX2 : Hid (gRes (guardFrom ats ⟨true, ar, ts⟩ (k + 1)) = x) := hid (by rw [← Hon.out hg]; exact HXk.out)
                    have HS5 := hid (RngAt.map HR5.out)
                    clear hlk hp HL1 HL2 hg Hon Hat Hgi HXk HR
                    go_wp2_with (at_lookup; refine wpList_look rfl _ _ rfl HP5.out EB_ok Try.underlying9 Try.underlying59 rfl X rfl hXs (.bool false) HLK.out ?_)
                    go_roundw
                    case rel => exact ⟨k + 1, by omega, rfl, rfl, by go_num, HX2, HS5, HB5⟩
                    case measure => simp [intOf]; omega
            · have h1 : guardsB ⟨true, ar, ts⟩ ⟨true, br, bts⟩ = false := by unfold guardsB; rfl
              have HX2 : Hid (gRes (guardFrom ats ⟨true, ar, ts⟩ (k + 1)) = x) := hid (by rw [← Hon.out h1]; exact HXk.out)
              clear Hon Hat Hgi HXk h1 hq2 hblk HBk HSk hZ
              go_wp2
              go_roundw
              case rel => exact ⟨k + 1, by omega, rfl, rfl, by go_num, HX2, HSn, HBn⟩
              case measure => simp [intOf]; omega
          · have hx : x = (0, 23) := by rw [← HXk.out, guardFrom_end hlt]; rfl
            subst hx
            clear HXk
            go_wp2
            try rw [Exit.noGoto_ret]
            go_ret2
            exact ⟨rfl, hbel⟩
end Go.Proofs.Ytgeapgbebbapmaa
