/-
  WALK: the document's Rename of layer 19.
-/
import Derived.Test.YtgeapgbebbapmaaDoorRn1
import Derived.Deep.DeepCutAuto
import Derived.Test.YtgeapgbebbapmaaDoorRnd
namespace Go.Proofs.YtgeapgbebbapmaaDoor
open Go.RowKit

theorem mtk_mem {f : Str → Str} {l : List Str} {j : Nat} (h : j < l.length) (hm : f l[j] ∈ (l.take j).map f) : dupB (l.map f) = true := by
  have hj : j < (l.map f).length := by simpa using h
  refine dup_at hj ?_
  rw [List.getElem_map, ← List.map_take]; exact hm
theorem mtk_nodup {f : Str → Str} {l : List Str} {j : Nat} (h : j < l.length) (hn : ((l.take j).map f).Nodup) (hm : f l[j] ∉ (l.take j).map f) : ((l.take (j + 1)).map f).Nodup := by
  rw [List.map_take] at hn hm ⊢
  have hj : j < (l.map f).length := by simpa using h
  refine nodup_take hj hn ?_
  rw [List.getElem_map]; exact hm

set_option maxRecDepth 100000 in
set_option maxHeartbeats 16000000 in
theorem ref_rename19 (q : Qry) (fr tos : List Str) (A R O Fa Ta : Option Addr) (ch cr co fc tc : Nat) (w : World) (hq : QryIn w q A R O ch cr co) (hwf : q.wf) (hf : NmsAt w Fa fr) (ht : NmsAt w Ta tos)
    (hfc : fr.length ≤ fc) (hfm : fr.length ≤ 100000) (htm : tos.length ≤ 100000) {x : Int} (hx : renE q fr tos = x) :
    Calls Tryd.prog 17 #[qryV q A R O ch cr co, .slice Fa fr.length fc, .slice Ta tos.length tc] w fun e w' => e = .returned (.int .i64 x) ∧ Below w.heap.size w w' := by
  have HQ := hid hq
  have HWF := hid hwf
  have HF := hid hf
  have HT := hid ht
  have HX := hid hx
  obtain ⟨y0, e0⟩ : ∃ y, checkQ q = y := ⟨_, rfl⟩
  have HE0 := hid e0
  have C1 := fun W h => hid (ref_check19 q A R O ch cr co W h e0)
  have CN := fun (hl : fr.length = tos.length) (X Y : ByteArray) W (b : Below w.heap.size w W) (h : (⟨(renF (zipF fr tos) X.data.toList).toArray⟩ : ByteArray) = Y) => hid (ref_rname fr tos Fa Ta fc tc X W (HF.out.below b) (HT.out.below b) hl (by omega) h)
  have CR := fun (hl : fr.length = tos.length) (hs : q.some) W (h : QryIn W q A R O ch cr co) (b : Below w.heap.size w W) => hid (ref_renamed (renF (zipF fr tos)) Fa Ta fr.length fc tos.length tc q A R O ch cr co W h HWF.out hs (fun W2 Z b2 _ => hid ((CN hl Z _ W2 (b.trans (b2.mono b.size)) rfl).out.mono (fun e w3 h => by obtain ⟨rfl, rfl⟩ := h; exact ⟨rfl, Below.refl _ _⟩))))
  obtain ⟨F, hF⟩ : ∃ F, renF (zipF fr tos) = F := ⟨_, rfl⟩
  have HFF := hid hF
  obtain ⟨y9, e9⟩ : ∃ y, checkQ (mapQ F q) = y := ⟨_, rfl⟩
  have HE9 := hid e9
  have C9 := fun W A2 R2 O2 c1 c2 c3 (h : QryIn W (mapQ F q) A2 R2 O2 c1 c2 c3) => hid (ref_check19 (mapQ F q) A2 R2 O2 c1 c2 c3 W h e9)
  rw [hF] at CR CN
  have HRl := hid hq.rules
  have mr := hq.mr
  obtain ⟨Y, hY⟩ : ∃ Y : ByteArray, (⟨q.aggVar.toArray⟩ : ByteArray) = Y := ⟨_, rfl⟩
  have hqv : qryV q A R O ch cr co = .agg #[.slice A q.head.length ch, .int .i64 q.agg, .string Y, .slice R q.rules.length cr, .slice O q.order.length co] := by unfold qryV; rw [hY]
  simp only [hqv] at C1 CR ⊢
  have HB0 : Hid (Below (w.heap.size + 1) (w.alloc (.cells #[.slice A q.head.length ch, .int .i64 q.agg, .string Y, .slice R q.rules.length cr, .slice O q.order.length co] 26)) (w.alloc (.cells #[.slice A q.head.length ch, .int .i64 q.agg, .string Y, .slice R q.rules.length cr, .slice O q.order.length co] 26))) := hid (Below.refl _ _)
  obtain ⟨_, _, _, _, _, qlt, hbel⟩ := qry_cells HB0.out
  obtain ⟨nr, enr⟩ : ∃ n, q.rules.length = n := ⟨_, rfl⟩
  have HNR := hid enr
  rw [enr] at C1 CR HB0 mr hbel qlt ⊢
  clear hqv hY e0 e9 hF hx hq hf ht hwf enr
  go_enter Tryd.func17, Tryd.ntmps17
  go_wp2_with fail
  refine (C1 _ (HQ.out.below hbel)).out.mono ?_
  rintro e w1 ⟨rfl, b1⟩
  have HB1 := hid (HB0.out.trans (b1.mono (by simp)))
  clear C1 b1 HB0 hbel qlt
  obtain ⟨q0, q1, q2, q3, q4, qlt, hbel⟩ := qry_cells HB1.out
  by_cases h0 : y0 = 0
  · have bq : (y0 != 0) = false := by simpa using h0
    have HC0 := hid (HE0.out.trans h0)
    clear h0
    by_cases hl : fr.length = tos.length
    · have bl : ((fr.length : Int) != (tos.length : Int)) = false := by rw [bne_eq_false_iff_eq]; omega
      have HL := hid hl
      have CN := fun X Y W b h => CN HL.out X Y W b h
      have CR := fun W h b => CR HL.out (check_some HC0.out) W h b
      obtain ⟨nt, hnt⟩ : ∃ n, tos.length = n := ⟨_, rfl⟩
      obtain ⟨nf, hnf⟩ : ∃ n, fr.length = n := ⟨_, rfl⟩
      have HNF := hid hnf
      rw [hnt, hnf] at CN CR bl
      rw [hnf] at hfc hfm
      rw [hnt] at htm
      simp only [hnt, hnf]
      clear hl hnt hnf
      go_wp2
      clear q0 q1 q2 q3 q4 qlt hbel
      go_loopw [8] (fun i wr => ∃ k : Nat, k ≤ nf ∧ i = .int .i64 k ∧ Hid (fr.take k).Nodup ∧ Hid (Below (w.heap.size + 1) (w.alloc (.cells #[.slice A q.head.length ch, .int .i64 q.agg, .string Y, .slice R nr cr, .slice O q.order.length co] 26)) wr)) (fun i _ => nf - (intOf i).toNat)
      case atStart => exact ⟨0, by omega, rfl, hid (by simp), HB1⟩
      case round =>
        clear HB1
        obtain ⟨k, hk, rfl, HND, HB⟩ := hrel
        obtain ⟨q0, q1, q2, q3, q4, qlt, hbel⟩ := qry_cells HB.out
        by_cases hlt : k < nf
        · have hkl : k < fr.length := by rw [HNF.out]; exact hlt
          obtain ⟨bf, of, rfl, hcf⟩ := HF.out (by omega)
          have d0 := cell_keep hbel (hcf k hkl)
          have hnt := fun h => nodup_take hkl HND.out h
          have hda := fun h => dup_at hkl h
          obtain ⟨v, ev⟩ : ∃ v, fr[k] = v := ⟨_, rfl⟩
          rw [ev] at d0 hnt hda
          obtain ⟨Z, hZ, hZd⟩ : ∃ Y : ByteArray, (⟨v.toArray⟩ : ByteArray) = Y ∧ Y.data.toList = v := ⟨_, rfl, rfl⟩
          rw [hZ] at d0
          obtain ⟨ix, hix⟩ : ∃ i, idxL (fr.take k) Z.data.toList = i := ⟨_, rfl⟩
          have hin := idxL_in (fr.take k) Z.data.toList
          rw [hix, hZd] at hin
          have hlk : (fr.take k).length = k := by simp only [List.length_take]; omega
          have CI := fun W h => hid (ref_index (some ⟨bf, of, none⟩) fc (fr.take k) Z W h (by omega) hix)
          rw [hlk] at CI
          have hkc : k ≤ fc := by omega
          have HHt := hid (HF.out.take k)
          by_cases hm : v ∈ fr.take k
          · have hix0 : 0 ≤ ix := hin.1.2 hm
            have hx : 8 = x := (renE_dup HC0.out HL.out (hda hm)).symm.trans HX.out
            subst hx
            clear hcf ev hnt hda hZ hZd hin hix hm hlk q0 q1 q2 q3 q4 qlt
            go_wp2
            go_still_tail 7, (by kernel_rfl)
            change wpList _ _ _ _ _ wr.drew
            have HB4 := hid (show Below (w.heap.size + 1) _ wr.drew from HB.out.drew)
            have HH4 := hid (HHt.out.below (hbel.trans ((Below.refl _ wr).drew.mono hbel.size)))
            have hb4 := (qry_cells HB4.out).2.2.2.2.2.2
            clear d0 HHt hbel HB
            generalize wr.drew = wd at *
            go_wp2_with fail
            refine (CI _ HH4.out).out.mono ?_
            rintro e w2 ⟨rfl, rfl⟩
            clear CI HH4
            go_wp2
            go_ret
            exact ⟨rfl, hb4⟩
          · have hix0 : ix < 0 := by
              apply Classical.byContradiction
              intro h
              exact hm (hin.1.1 (by omega))
            have HN := hid (hnt hm)
            clear hcf ev hnt hda hZ hZd hin hix hm hlk q0 q1 q2 q3 q4 qlt HND
            go_wp2
            go_still_tail 7, (by kernel_rfl)
            change wpList _ _ _ _ _ wr.drew
            have HB4 := hid (show Below (w.heap.size + 1) _ wr.drew from HB.out.drew)
            have HH4 := hid (HHt.out.below (hbel.trans ((Below.refl _ wr).drew.mono hbel.size)))
            clear d0 HHt hbel HB
            generalize wr.drew = wd at *
            go_wp2_with fail
            refine (CI _ HH4.out).out.mono ?_
            rintro e w2 ⟨rfl, rfl⟩
            clear CI HH4
            go_wp2
            go_roundw
            case rel => exact ⟨k + 1, by omega, by go_num, HN, HB4⟩
            case measure => simp [intOf]; omega
        · have hnd := HND.out
          rw [List.take_of_length_le (by rw [HNF.out]; omega)] at hnd
          have HNDF := hid hnd
          clear hnd HND
          go_wp2
          clear q0 q1 q2 q3 q4 qlt hbel hlt hk
          go_loopw [9] (fun i wr => ∃ k : Nat, k ≤ nr ∧ i = .int .i64 k ∧ Hid (∀ j (hj : j < q.rules.length), j < k → ((varsL q.rules[j]).map F).Nodup) ∧ Hid (Below (w.heap.size + 1) (w.alloc (.cells #[.slice A q.head.length ch, .int .i64 q.agg, .string Y, .slice R nr cr, .slice O q.order.length co] 26)) wr)) (fun i _ => nr - (intOf i).toNat)
          case atStart => exact ⟨0, by omega, rfl, hid (fun j _ h => absurd h (by omega)), HB⟩
          case round =>
            clear HB
            obtain ⟨k, hk, rfl, HRN, HB⟩ := hrel
            obtain ⟨q0, q1, q2, q3, q4, qlt, hbel⟩ := qry_cells HB.out
            by_cases hlt : k < nr
            · have hkl : k < q.rules.length := by rw [HNR.out]; exact hlt
              obtain ⟨bb, o, rfl, hc⟩ := HRl.out (by omega)
              obtain ⟨T, ct, T2, ct2, d0, d1, ha, hcn, _, _, _, _⟩ := hc k hkl
              have hit : itemsE q.rules[k] = 0 := by
                have h6 := firstE_zero (check_parts HC0.out).2.2.2.2.2.1 q.rules[k] (List.getElem_mem hkl)
                unfold ruleE at h6
                by_cases hi : itemsE q.rules[k] = 0
                · exact hi
                · rw [if_neg hi] at h6; exact absurd h6 hi
              have hv8 := check_vars HC0.out (List.getElem_mem hkl)
              have hrule := fun h => (renE_rule HC0.out HL.out HNDF.out hkl h).symm.trans HX.out
              have hnext : ((varsL q.rules[k]).map F).Nodup → ∀ j (hj : j < q.rules.length), j < k + 1 → ((varsL q.rules[j]).map F).Nodup := fun h j hj hjk => by
                by_cases e : j = k
                · subst e; exact h
                · exact HRN.out j hj (by omega)
              rw [HFF.out] at hrule
              obtain ⟨V, eV⟩ : ∃ V, varsL q.rules[k] = V := ⟨_, rfl⟩
              rw [eV] at hv8 hrule hnext
              have CV := fun W (b : Below w.heap.size w W) => hid (ref_vars19 q.rules[k] T T2 ct ct2 W (ha.below b) (hcn.below b) (few_of_items hit) (conds_ne hit) eV)
              have Hrule := hid hrule
              have Hnext := hid hnext
              replace d0 := cell_keep hbel d0
              replace d1 := cell_keep hbel d1
              obtain ⟨n1, en1⟩ : ∃ n, q.rules[k].atoms.length = n := ⟨_, rfl⟩
              obtain ⟨n2, en2⟩ : ∃ n, q.rules[k].conds.length = n := ⟨_, rfl⟩
              rw [en1] at d0 CV
              rw [en2] at d1 CV
              clear hc ha hcn hit hrule hnext eV en1 en2
              go_wp2_with fail
              refine (CV _ hbel).out.mono ?_
              rintro e w2 ⟨AV, cV, rfl, hown, b2⟩
              obtain ⟨AV2, cV2, eu, hNV, hNl⟩ := own_names hown
              injection eu with e1 e2 e3
              subst e1 e3
              have HNV := hid hNV
              have HB2 := hid (HB.out.trans (b2.mono (by have := HB.out.size; simp at this; omega)))
              obtain ⟨nv, hnv⟩ : ∃ n, V.length = n := ⟨_, rfl⟩
              have HNVL := hid hnv
              rw [hnv] at hv8
              simp only [hnv]
              clear hown b2 CV d0 d1 q0 q1 q2 q3 q4 qlt hbel hNV hNl hnv HB
              go_wp2
              go_loopw [11] (fun i wr => ∃ j : Nat, j ≤ nv ∧ i = .int .i64 j ∧ Hid ((V.take j).map F).Nodup ∧ Hid (Below w2.heap.size w2 wr)) (fun i _ => nv - (intOf i).toNat)
              case atStart => exact ⟨0, by omega, rfl, hid (by simp), hid (Below.refl _ _)⟩
              case round =>
                obtain ⟨j, hj, rfl, HJ, HB3⟩ := hrel
                by_cases hjn : j < nv
                · have hjl : j < V.length := by rw [HNVL.out]; exact hjn
                  obtain ⟨bv, ov, rfl, hcv⟩ := HNV.out (by omega)
                  go_wp2
                  go_loopw [12] (fun i wr => ∃ l : Nat, l ≤ j ∧ i = .int .i64 l ∧ Hid (F V[j] ∉ (V.take l).map F) ∧ Hid (Below w2.heap.size w2 wr)) (fun i _ => j - (intOf i).toNat)
                  case atStart => exact ⟨0, by omega, rfl, hid (by simp), HB3⟩
                  case round =>
                    clear HB3
                    obtain ⟨l, hl, rfl, HNI, HB4⟩ := hrel
                    by_cases hlj : l < j
                    · have hll : l < V.length := by omega
                      have hln : l < nv := by omega
                      have d0 := cell_keep HB4.out (hcv j hjl)
                      have d1 := cell_keep HB4.out (hcv l hll)
                      have hbl := (qry_cells (HB2.out.trans (HB4.out.mono (by have := HB2.out.size; simp at this; omega)))).2.2.2.2.2.2
                      have hdup : F V[j] = F V[l] → 8 = x := fun h => Hrule.out (mtk_mem hjl (by rw [h]; exact List.mem_map.2 ⟨V[l], List.mem_take_iff_getElem.2 ⟨l, by omega, rfl⟩, rfl⟩))
                      have hnot : F V[j] ≠ F V[l] → F V[j] ∉ (V.take (l + 1)).map F := fun h => by
                        rw [List.take_succ_eq_append_getElem hll, List.map_append, List.mem_append]
                        rintro (h2 | h2)
                        · exact HNI.out h2
                        · simp only [List.map_cons, List.map_nil, List.mem_singleton] at h2; exact h h2
                      obtain ⟨v, ev⟩ : ∃ v, V[j] = v := ⟨_, rfl⟩
                      obtain ⟨u, eu⟩ : ∃ v, V[l] = v := ⟨_, rfl⟩
                      rw [ev, eu] at hdup hnot
                      rw [ev] at d0
                      rw [eu] at d1
                      obtain ⟨Z1, hZ1, hZ1d⟩ : ∃ Y : ByteArray, (⟨v.toArray⟩ : ByteArray) = Y ∧ Y.data.toList = v := ⟨_, rfl, rfl⟩
                      obtain ⟨Z2, hZ2, hZ2d⟩ : ∃ Y : ByteArray, (⟨u.toArray⟩ : ByteArray) = Y ∧ Y.data.toList = u := ⟨_, rfl, rfl⟩
                      rw [hZ1] at d0
                      rw [hZ2] at d1
                      obtain ⟨Y1, hY1, hY1d⟩ : ∃ Y : ByteArray, (⟨(F v).toArray⟩ : ByteArray) = Y ∧ Y.data.toList = F v := ⟨_, rfl, rfl⟩
                      obtain ⟨Y2, hY2, hY2d⟩ : ∃ Y : ByteArray, (⟨(F u).toArray⟩ : ByteArray) = Y ∧ Y.data.toList = F u := ⟨_, rfl, rfl⟩
                      have D1 : ∀ p : BelowBy wr, Hid (Calls Tryd.prog 46 #[.string Z1, .slice Fa nf fc, .slice Ta nt tc] p.to fun e w' => e = .returned (.string Y1) ∧ Below p.to.heap.size p.to w') := fun p => hid ((CN Z1 Y1 p.to (hbl.trans (p.le.mono hbl.size)) (by rw [hZ1d]; exact hY1)).out.mono (fun e w3 h => by obtain ⟨rfl, rfl⟩ := h; exact ⟨rfl, Below.refl _ _⟩))
                      have D2 : ∀ p : BelowBy wr, Hid (Calls Tryd.prog 46 #[.string Z2, .slice Fa nf fc, .slice Ta nt tc] p.to fun e w' => e = .returned (.string Y2) ∧ Below p.to.heap.size p.to w') := fun p => hid ((CN Z2 Y2 p.to (hbl.trans (p.le.mono hbl.size)) (by rw [hZ2d]; exact hY2)).out.mono (fun e w3 h => by obtain ⟨rfl, rfl⟩ := h; exact ⟨rfl, Below.refl _ _⟩))
                      replace d0 := fun p : BelowBy wr => by_cell d0 p
                      replace d1 := fun p : BelowBy wr => by_cell d1 p
                      by_cases heq : F v = F u
                      · have hb : (Y1.toList == Y2.toList) = true := by rw [eqS (Lib.toList_data Y1) (Lib.toList_data Y2), hY1d, hY2d]; exact decide_eq_true heq
                        have hx := hdup heq
                        subst hx
                        clear hdup hnot ev eu hZ1 hZ1d hZ2 hZ2d hY1 hY1d hY2 hY2d heq hcv HNI
                        go_wp2_with fail
                        refine wp_region_below (by kernel_rfl) (by kernel_rfl) ?_
                        repeat (go_big_quiet_step (first | with_reducible exact calls_by (D1 _).out | with_reducible exact calls_by (D2 _).out))
                        refine wpQuiet_nil ?_
                        rintro wq ⟨⟨wqx, kq⟩, rfl⟩
                        have hb9 := hbl.trans (kq.mono hbl.size)
                        go_wp2
                        go_ret
                        exact ⟨rfl, hb9⟩
                      · have hb : (Y1.toList == Y2.toList) = false := by rw [eqS (Lib.toList_data Y1) (Lib.toList_data Y2), hY1d, hY2d]; exact decide_eq_false heq
                        have HN2 : Hid (F V[j] ∉ (V.take (l + 1)).map F) := hid (by rw [ev]; exact hnot heq)
                        clear hdup hnot ev eu hZ1 hZ1d hZ2 hZ2d hY1 hY1d hY2 hY2d heq hcv HNI
                        go_wp2_with fail
                        refine wp_region_below (by kernel_rfl) (by kernel_rfl) ?_
                        repeat (go_big_quiet_step (first | with_reducible exact calls_by (D1 _).out | with_reducible exact calls_by (D2 _).out))
                        refine wpQuiet_nil ?_
                        rintro wq ⟨⟨wqx, kq⟩, rfl⟩
                        have HB5 := hid (HB4.out.trans (kq.mono HB4.out.size))
                        go_wp2
                        go_roundw
                        case rel => exact ⟨l + 1, by omega, by go_num, HN2, HB5⟩
                        case measure => simp [intOf]; omega
                    · have hle : l = j := by omega
                      have hni := HNI.out
                      rw [hle] at hni
                      have HJ2 := hid (mtk_nodup hjl HJ.out hni)
                      clear HNI hni hle
                      go_wp2
                      go_roundw
                      case rel => exact ⟨j + 1, by omega, by go_num, HJ2, HB4⟩
                      case measure => simp [intOf]; omega
                · have hnd := HJ.out
                  rw [List.take_of_length_le (by rw [HNVL.out]; omega)] at hnd
                  have HRN2 := hid (Hnext.out hnd)
                  have HB5 := hid (HB2.out.trans (HB3.out.mono (by have := HB2.out.size; simp at this; omega)))
                  clear hnd HJ
                  go_wp2
                  go_roundw
                  case rel => exact ⟨k + 1, by omega, by go_num, HRN2, HB5⟩
                  case measure => simp [intOf]; omega
            · have hend := renE_end HC0.out HL.out HNDF.out (fun i hi => by rw [HFF.out]; exact HRN.out i hi (by rw [HNR.out] at hi; omega))
              rw [HFF.out] at hend
              have hx : y9 = x := HE9.out.symm.trans (hend.symm.trans HX.out)
              subst hx
              clear hend HRN
              go_wp2_with fail
              refine (CR _ (HQ.out.below hbel) hbel).out.mono ?_
              rintro e w2 ⟨A2, R2, O2, c1, c2, c3, rfl, hq2, b2⟩
              have C10 := C9 w2 A2 R2 O2 c1 c2 c3 (hq2 w2 (fun b _ _ => rfl))
              have hb2 := hbel.trans (b2.mono hbel.size)
              clear CR hq2 b2 q0 q1 q2 q3 q4 qlt hbel C9
              generalize qryV (mapQ F q) A2 R2 O2 c1 c2 c3 = V9 at *
              go_wp2_with fail
              refine C10.out.mono ?_
              rintro e w3 ⟨rfl, b3⟩
              have hb3 := hb2.trans (b3.mono hb2.size)
              clear C10 b3 hb2
              go_wp2
              go_ret
              exact ⟨rfl, hb3⟩
    · have bl : ((fr.length : Int) != (tos.length : Int)) = true := by rw [bne_iff_ne]; omega
      have hx : 1 = x := (renE_len HC0.out hl).symm.trans HX.out
      subst hx
      clear hl CR CN C9
      go_wp2
      go_ret
      exact ⟨rfl, hbel⟩
  · have bq : (y0 != 0) = true := by simpa using h0
    have hx : y0 = x := HE0.out.symm.trans ((renE_check (by rw [HE0.out]; exact h0)).symm.trans HX.out)
    subst hx
    clear h0 CR CN C9
    go_wp2
    go_ret
    exact ⟨rfl, hbel⟩
end Go.Proofs.YtgeapgbebbapmaaDoor
