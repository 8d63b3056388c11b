/-
  WALK: ast.Rename.
-/
import Derived.Test.YtgeapgbebbapmaaDoorRen1
import Derived.Test.YtgeapgbebbapmaaDoorRen2
import Derived.Deep.DeepCutAuto
namespace Go.Proofs.YtgeapgbebbapmaaDoor
open Go.RowKit

/-- What Rename returns. -/
def RetRn (w : World) (q : Qry) (x : Int) (e : Ending) (w' : World) : Prop := ∃ v, e = .returned (.tuple #[v, .int .i64 x]) ∧ ((x ≠ 0 ∧ v = .agg #[.slice none 0 0, .int .i64 0, .string ⟨#[]⟩, .slice none 0 0, .slice none 0 0]) ∨ (x = 0 ∧ ∃ A R O ch cr co, v = qryV q A R O ch cr co ∧ ∀ w2, Over w.heap.size w' w2 → QryIn w2 q A R O ch cr co)) ∧ Below w.heap.size w w'
theorem rne_map {P : Program} {e k : TypeId} {α : Type} {E : Elem α} {w : World} {b n : Nat} {F : Str → Option α} (hm : MapAt P e k E w b n F) {b' o : Nat} {v : Value} (h : w.cell? ⟨b', o, none⟩ = some v) : b' ≠ b := by
  rintro rfl
  obtain ⟨D, ⟨es, clock, hb, _⟩, _⟩ := hm
  simp [World.cell?, hb] at h
theorem NmsAt.put {P : Program} {e k : TypeId} {α : Type} {E : Elem α} {w w' : World} {b n : Nat} {F : Str → Option α} {A : Option Addr} {l : List Str} (h : NmsAt w A l) (hm : MapAt P e k E w b n F) (hg : w.grownBy w' (some b)) : NmsAt w' A l := fun hp => by
  obtain ⟨bb, o, e, hc⟩ := h hp
  exact ⟨bb, o, e, fun i hi => hg.cell (hc i hi) (fun e => rne_map hm (hc i hi) (by injection e))⟩
theorem ES_wf {s : Str} (h : s.length ≤ 9223372036854775807) : plainElem (H := Unit) Tryd.prog 9 (ES.R s) = some (.lit (ES.L s), []) := plainElem_string Tryd.underlying9 (by
  show s.toArray.size ≤ _
  simp [maxLen]; omega)
theorem map_take_mem {f : Str → Str} {l : List Str} {j : Nat} (h : j < l.length) (hm : f l[j] ∈ (l.take j).map f) : dupB (l.map f) = true := by
  have hj : j < (l.map f).length := by simpa using h
  refine dup_at hj ?_
  rw [List.getElem_map, ← List.map_take]; exact hm
theorem map_take_nodup {f : Str → Str} {l : List Str} {j : Nat} (h : j < l.length) (hn : ((l.take j).map f).Nodup) (hm : f l[j] ∉ (l.take j).map f) : ((l.take (j + 1)).map f).Nodup := by
  rw [List.map_take] at hn hm ⊢
  have hj : j < (l.map f).length := by simpa using h
  refine nodup_take hj hn ?_
  rw [List.getElem_map]; exact hm

set_option maxRecDepth 100000 in
set_option maxHeartbeats 32000000 in
theorem ast_rename (q : Qry) (fr tos : List Str) (A R O Fa Ta : Option Addr) (ch cr co fc tc : Nat) (w : World) (hq : QryIn w q A R O ch cr co) (hwf : q.wf) (hf : NmsAt w Fa fr) (ht : NmsAt w Ta tos)
    (hfl : ∀ s ∈ fr, s.length ≤ 9223372036854775807) (htl : ∀ s ∈ tos, s.length ≤ 9223372036854775807) (hfm : fr.length ≤ 100000) (htm : tos.length ≤ 100000) {x : Int} (hx : renE q fr tos = x) :
    Calls Tryd.prog 16 #[qryV q A R O ch cr co, .slice Fa fr.length fc, .slice Ta tos.length tc] w (RetRn w (mapQ (renF (zipF fr tos)) q) x) := by
  have HQ := hid hq
  have HWF := hid hwf
  have HF := hid hf
  have HT := hid ht
  have HFL := hid hfl
  have HTL := hid htl
  have HX := hid hx
  obtain ⟨y0, e0⟩ : ∃ y, checkQ q = y := ⟨_, rfl⟩
  have HE0 := hid e0
  have C1 := fun W h => hid (ast_check q A R O ch cr co W h hwf e0)
  have HRl := hid hq.rules
  obtain ⟨Y, hY, hYd, _⟩ := nm q.aggVar
  have HY := hid hY
  have HYd := hid hYd
  have hmm := @run_makeMap Tryd.prog
  have hmf : ∀ (fn : Fn) (first cap : Array Value) (w : World), (Instr.makeFunc fn first cap).run Tryd.prog w = .ok (.func fn first cap) w := fun _ _ _ _ => rfl
  unfold qryV at C1 ⊢
  simp only [hY] at C1 ⊢
  clear hY hYd hwf hfl htl hx e0 hq hf ht
  obtain ⟨hd, ga, av, rs, os⟩ := q
  simp only at *
  have HB0 : Hid (QIn w (.slice A hd.length ch) (.int .i64 ga) (.string Y) (.slice R rs.length cr) (.slice O os.length co) 26 (.cells #[.slice none 0 0, .int .i64 0, .string ⟨#[]⟩, .slice none 0 0, .slice none 0 0] 26)  ((w.alloc (.cells #[.slice A hd.length ch, .int .i64 ga, .string Y, .slice R rs.length cr, .slice O os.length co] 26)).alloc (.cells #[.slice none 0 0, .int .i64 0, .string ⟨#[]⟩, .slice none 0 0, .slice none 0 0] 26))) := hid QIn.refl
  go_enter Tryd.func16, Tryd.ntmps16
  go_upto_region 1 with fail
  generalize ((w.alloc (.cells #[.slice A hd.length ch, .int .i64 ga, .string Y, .slice R rs.length cr, .slice O os.length co] 26)).alloc (.cells #[.slice none 0 0, .int .i64 0, .string ⟨#[]⟩, .slice none 0 0, .slice none 0 0] 26)) = wa at *
  obtain ⟨q0, q1, q2, q3, q4, qz, qlt, hbel⟩ := HB0.out.cells
  go_wp2_with fail
  refine (C1 _ (HQ.out.below hbel)).out.mono ?_
  rintro e w2 ⟨rfl, b2⟩
  have HQI := hid (HB0.out.on b2 HB0.out.size)
  clear C1 b2 HB0 q0 q1 q2 q3 q4 qz qlt hbel
  obtain ⟨q0, q1, q2, q3, q4, qz, qlt, hbel⟩ := HQI.out.cells
  by_cases h0 : y0 = 0
  · have bq : (y0 != 0) = false := by simpa using h0
    have HC0 := hid (HE0.out.trans h0)
    clear h0
    by_cases hl : fr.length = tos.length
    · have bl : ((fr.length : Int) != (tos.length : Int)) = false := by rw [bne_eq_false_iff_eq]; omega
      have HL := hid hl
      have hgm := MapAt.made (P := Tryd.prog) (e := 9) (k := 9) (E := ES) w2
      have hn0 : NmMap ((w2.alloc (.map #[] 0)).alloc (.cells #[.map (some w2.heap.size)] 85)) (w2.heap.size + 1) w2.heap.size 0 (zipF (fr.take 0) (tos.take 0)) := ⟨hgm.alloc _, by
        have h := heap_alloc_new (w2.alloc (.map #[] 0)) (.cells #[.map (some w2.heap.size)] 85)
        rw [World.size_alloc] at h
        exact h⟩
      have hbm := below_two w2 (.map #[] 0) (.cells #[.map (some w2.heap.size)] 85)
      have HN0 := hid hn0
      have HQ3 := hid (HQI.out.on hbm HQI.out.size)
      have hgl : w.heap.size + 1 + 1 ≤ w2.heap.size := HQI.out.size
      clear hl hgm hn0 HQI
      go_upto_region 7 with fail
      clear q0 q1 q2 q3 q4 qz qlt hbel hbm
      generalize ((w2.alloc (.map #[] 0)).alloc (.cells #[.map (some w2.heap.size)] 85)) = wm at *
      obtain ⟨gm, hgm⟩ : ∃ g, w2.heap.size = g := ⟨_, rfl⟩
      rw [hgm] at HN0 hgl
      simp only [hgm]
      clear hgm
      go_wp2
      go_loopw [37] (fun i wr => ∃ k : Nat, k ≤ fr.length ∧ i = .int .i64 k ∧ Hid (NmMap wr (gm + 1) gm k (zipF (fr.take k) (tos.take k))) ∧ Hid (fr.take k).Nodup ∧ Hid (QIn w (.slice A hd.length ch) (.int .i64 ga) (.string Y) (.slice R rs.length cr) (.slice O os.length co) 26 (.cells #[.slice none 0 0, .int .i64 0, .string ⟨#[]⟩, .slice none 0 0, .slice none 0 0] 26)  wr)) (fun i _ => fr.length - (intOf i).toNat)
      case atStart => exact ⟨0, by omega, rfl, HN0, hid (by simp), HQ3⟩
      case round =>
        clear HN0 HQ3
        obtain ⟨k, hk, rfl, HM, HND, HQI⟩ := hrel
        obtain ⟨q0, q1, q2, q3, q4, qz, qlt, hbel⟩ := HQI.out.cells
        have hsz := hbel.size
        have c0 := cell_of_one HM.out.2
        have cl := lt_of_block HM.out.2
        by_cases hlt : k < fr.length
        · have hlt2 : k < tos.length := by have := HL.out; omega
          obtain ⟨bf, of, rfl, hcf⟩ := HF.out (by omega)
          obtain ⟨bt, ot, rfl, hct⟩ := HT.out (by omega)
          have d0 := cell_keep hbel (hcf k hlt)
          have d1 := cell_keep hbel (hct k hlt2)
          have hfv := HFL.out fr[k] (List.getElem_mem hlt)
          have htv := HTL.out tos[k] (List.getElem_mem hlt2)
          have hsome := zipF_some (fr := fr.take k) (tos := tos.take k) (by simp; have := HL.out; omega) fr[k]
          have hzs := fun h => zipF_succ (fr := fr) (tos := tos) hlt hlt2 h
          have hnt := fun h => nodup_take hlt HND.out h
          have hda := fun h => dup_at hlt h
          obtain ⟨v, ev⟩ : ∃ v, fr[k] = v := ⟨_, rfl⟩
          obtain ⟨t, et⟩ : ∃ t, tos[k] = t := ⟨_, rfl⟩
          rw [ev] at d0 hfv hsome hzs hnt hda
          rw [et] at d1 htv hzs
          obtain ⟨Z, hZ, hZd, _⟩ := nm v
          rw [hZ] at d0
          have hZs := maxLen_of hZd hfv
          have HZd := hid hZd
          obtain ⟨V, hV⟩ : ∃ V : ByteArray, ES.R ((zipF (fr.take k) (tos.take k) Z.data.toList).getD ES.zero) = .string V := ⟨_, rfl⟩
          have HV := hid hV
          have HTV := hid htv
          by_cases hm : v ∈ fr.take k
          · have hy : (zipF (fr.take k) (tos.take k) Z.data.toList).isSome = true := by rw [hZd, hsome]; simpa using hm
            have HYY := hid hy
            have hdup := hda hm
            clear hcf hct ev et hZ hZd hV hy hsome hzs hnt hda hm
            go_wp2_with (first
              | (at_lookup; refine wpList_lookOk rfl _ _ rfl HM.out.1 ES_ok Tryd.underlying9 Tryd.underlying85 rfl Z rfl hZs (.string V) HV.out true HYY.out ?_)
              | (refine wpList_stored2 rfl rfl rfl rfl qz infoQryN rfl rfl ?_; intro w9 hz9 hg9))
            have hx : 8 = x := (renE_dup HC0.out HL.out hdup).symm.trans HX.out
            subst hx
            refine bodyPost_ret (by simp [results, Tryd.results16, go_sem, cell_res' hz9]; rfl) rfl ?_
            exact ⟨_, rfl, .inl ⟨by decide, rfl⟩, hbel.grown hg9 hbel.size (fun k e => by injection e with e; omega)⟩
          · have hy : (zipF (fr.take k) (tos.take k) Z.data.toList).isSome = false := by rw [hZd, hsome]; simpa using hm
            have HYY := hid hy
            have HZS := hid (hzs hm)
            have HN2 := hid (hnt hm)
            clear hcf hct ev et hZ hZd hV hy hsome hzs hnt hda hm
            go_wp2_with (at_lookup; refine wpList_lookOk rfl _ _ rfl HM.out.1 ES_ok Tryd.underlying9 Tryd.underlying85 rfl Z rfl hZs (.string V) HV.out false HYY.out ?_)
            have hj0 : (0 : Int) ≤ (k : Int) := by omega
            have hj1 : (k : Int) < (tos.length : Int) := by omega
            go_still_tail 6, (by kernel_rfl)
            change wpList _ _ _ _ _ wr.drew
            have hdr : Below wr.heap.size wr wr.drew := (Below.refl _ wr).drew
            have HM2 := hid (HM.out.below hdr)
            have HQ2 := hid (HQI.out.on hdr HQI.out.size)
            go_wp2_with (at_mapUpdate; refine wpList_put rfl _ _ _ rfl HM2.out.1 Tryd.underlying9 Tryd.underlying85 (by unfold maxLen; omega) rfl Z rfl hZs t rfl (ES_wf HTV.out) ?_; intro w5 hmap5 hg5)
            rw [HZd.out, HZS.out] at hmap5
            have HM5 : Hid (NmMap w5 (gm + 1) gm (k + 1) (zipF (fr.take (k + 1)) (tos.take (k + 1)))) := hid ⟨hmap5, (hg5.block (gm + 1) (lt_of_block HM2.out.2) (fun e => by injection e with e; omega)).trans HM2.out.2⟩
            have HQ5 := hid (HQ2.out.on (((Below.refl gm wr.drew).grown hg5 (by have := hdr.size; omega) (fun k e => by injection e with e; omega))) hgl)
            clear hmap5 hg5 HM HM2 HQI HQ2
            go_wp2
            go_roundw
            case rel => exact ⟨k + 1, by omega, (by first | rfl | go_num), HM5, HN2, HQ5⟩
            case measure => simp [intOf]; omega
        · have hke : k = fr.length := by omega
          have hnd := HND.out
          rw [List.take_of_length_le (by omega)] at hnd
          have hmf := HM.out
          rw [List.take_of_length_le (by omega), List.take_of_length_le (by have := HL.out; omega)] at hmf
          obtain ⟨F, hF⟩ : ∃ F, zipF fr tos = F := ⟨_, rfl⟩
          rw [hF] at hmf ⊢
          have HFF := hid hF
          have HND2 := hid hnd
          have HM1 := hid hmf
          clear hke hnd hmf hF HM HND
          obtain ⟨n, hn⟩ : ∃ n, k = n := ⟨_, rfl⟩
          rw [hn] at HM1
          have hfew := check_few HC0.out
          have hr3 : rs.length ≤ 3 := hfew.1.2
          have HFEW := hid hfew.2
          clear hn hfew c0 cl
          go_wp2
          clear q0 q1 q2 q3 q4 qz qlt hbel hsz
          go_loopw [61] (fun i wr => ∃ k : Nat, k ≤ rs.length ∧ i = .int .i64 k ∧ Hid (∀ i (hi : i < rs.length), i < k → ((varsL rs[i]).map (renF F)).Nodup) ∧ Hid (NmMap wr (gm + 1) gm n F) ∧ Hid (QIn w (.slice A hd.length ch) (.int .i64 ga) (.string Y) (.slice R rs.length cr) (.slice O os.length co) 26 (.cells #[.slice none 0 0, .int .i64 0, .string ⟨#[]⟩, .slice none 0 0, .slice none 0 0] 26)  wr)) (fun i _ => rs.length - (intOf i).toNat)
          case atStart => exact ⟨0, by omega, rfl, hid (fun i _ h => absurd h (by omega)), HM1, HQI⟩
          case round =>
            clear HM1 HQI hlt hk
            obtain ⟨k, hk, rfl, HNK, HM, HQI⟩ := hrel
            rename World => wo
            obtain ⟨q0, q1, q2, q3, q4, qz, qlt, hbel⟩ := HQI.out.cells
            have hsz := hbel.size
            by_cases hlt : k < rs.length
            · obtain ⟨bb, o, rfl, hc⟩ := HRl.out (by omega)
              obtain ⟨T, ct, T2, ct2, d0, d1, ha, hcn, _, _, _, _⟩ := hc k hlt
              replace d0 := cell_keep hbel d0
              replace d1 := cell_keep hbel d1
              have hfw := HFEW.out rs[k] (List.getElem_mem hlt)
              have hwr := HWF.out.rules rs[k] (List.getElem_mem hlt)
              have hv8 := check_vars HC0.out (List.getElem_mem (l := rs) hlt)
              have hdr := fun h => renE_rule (q := ⟨hd, ga, av, rs, os⟩) (fr := fr) (tos := tos) HC0.out HL.out HND2.out hlt h
              have hnx : ((varsL rs[k]).map (renF F)).Nodup → ∀ i (hi : i < rs.length), i < k + 1 → ((varsL rs[i]).map (renF F)).Nodup := fun h i hi hik => by
                by_cases he : i = k
                · subst he; exact h
                · exact HNK.out i hi (by omega)
              rw [HFF.out] at hdr
              obtain ⟨r, er⟩ : ∃ r, rs[k] = r := ⟨_, rfl⟩
              have hdr2 : dupB ((varsL rs[k]).map (renF F)) = true → renE ⟨hd, ga, av, rs, os⟩ fr tos = 8 := hdr
              rw [er] at d0 d1 ha hcn hfw hwr hv8 hdr2 hnx
              obtain ⟨VL, eV⟩ : ∃ l, varsL r = l := ⟨_, rfl⟩
              have hvl := fun v hv => vars_len hwr v hv
              have C2 := fun W h1 h2 => hid (ast_vars2 r T T2 ct ct2 W h1 h2 hfw hwr eV)
              rw [eV] at hv8 hdr2 hnx hvl
              have HDR := hid hdr2
              have HNX := hid hnx
              have HVL := hid hvl
              have HA := hid ha
              have HCN := hid hcn
              clear hc er eV hfw hwr hdr hdr2 hnx hvl ha hcn HNK
              go_upto_region 20 with fail
              have hbn := below_two wo (.cells #[.slice T r.atoms.length ct, .slice T2 r.conds.length ct2] 49) (.map #[] 0)
              have hR := res_keep' (heap_alloc_new wo (.cells #[.slice T r.atoms.length ct, .slice T2 r.conds.length ct2] 49)) (below_one (wo.alloc (.cells #[.slice T r.atoms.length ct, .slice T2 r.conds.length ct2] 49)) (.map #[] 0)) (by simp)
              have hst := SetAt.made (wo.alloc (.cells #[.slice T r.atoms.length ct, .slice T2 r.conds.length ct2] 49))
              rw [World.size_alloc] at hst
              obtain ⟨s0, s1⟩ := rcell2 hR
              have slt := lt_of_block hR
              have HST := hid hst
              have HBN := hid hbn
              have HBL := hid hbel
              clear hbn hR hst d0 d1 q0 q1 q2 q3 q4 qz qlt hbel
              generalize ((wo.alloc (.cells #[.slice T r.atoms.length ct, .slice T2 r.conds.length ct2] 49)).alloc (.map #[] 0)) = wn at *
              go_wp2_with fail
              refine (C2 _ (HA.out.below (HBL.out.trans (HBN.out.mono hsz))) (HCN.out.below (HBL.out.trans (HBN.out.mono hsz)))).out.mono ?_
              rintro e w4 ⟨VA, vc, BV, rfl, _, hVr, b4⟩
              obtain ⟨VA', vc', ev, hVA, _⟩ := own_names hVr
              injection ev with ev1 _ _
              subst ev1
              have HVA := hid hVA
              have HS4 := hid (MapAt.below HST.out b4)
              have HB4 := hid (HBN.out.trans (b4.mono HBN.out.size))
              clear C2 b4 hVr hVA HST HBN s0 s1 slt
              go_wp2
              go_loopw [69] (fun i wr => ∃ j : Nat, j ≤ VL.length ∧ i = .int .i64 j ∧ Hid (SetAt wr (wo.heap.size + 1) j ((VL.take j).map (renF F))) ∧ Hid (((VL.take j).map (renF F)).Nodup) ∧ Hid (NmsAt wr VA VL) ∧ Hid (Below wo.heap.size wo wr)) (fun i _ => VL.length - (intOf i).toNat)
              case atStart => exact ⟨0, by omega, rfl, HS4, hid (by simp), HVA, HB4⟩
              case round =>
                clear HS4 HVA HB4
                obtain ⟨j, hj, rfl, HSj, HNj, HVj, HBj⟩ := hrel
                have HMj := hid (HM.out.below HBj.out)
                have HQj := hid (HQI.out.on HBj.out HQI.out.size)
                have hszj := HBj.out.size
                have hml := HSj.out.lt
                by_cases hjt : j < VL.length
                · obtain ⟨bv, ov, rfl, hcv⟩ := HVj.out (by omega)
                  have g0 := hcv j hjt
                  have hvv := HVL.out VL[j] (List.getElem_mem hjt)
                  have hmt := fun h => map_take_mem (f := renF F) hjt h
                  have hmn := fun h => map_take_nodup (f := renF F) hjt HNj.out h
                  have htk : (VL.take (j + 1)).map (renF F) = (VL.take j).map (renF F) ++ [renF F VL[j]] := by rw [List.take_succ_eq_append_getElem hjt, List.map_append]; rfl
                  obtain ⟨v, ev⟩ : ∃ v, VL[j] = v := ⟨_, rfl⟩
                  rw [ev] at g0 hvv hmt hmn htk
                  have hfl := renF_len (fr := fr) HTL.out hvv
                  rw [HFF.out] at hfl
                  obtain ⟨Z, hZ, hZd, _⟩ := nm v
                  rw [hZ] at g0
                  have hZs := maxLen_of hZd hvv
                  obtain ⟨FZ, hFZ⟩ : ∃ X : ByteArray, (⟨(renF F Z.data.toList).toArray⟩ : ByteArray) = X := ⟨_, rfl⟩
                  have hFd : FZ.data.toList = renF F v := by rw [← hFZ, hZd]
                  have hFs := maxLen_of hFd hfl
                  have HFD := hid hFd
                  have HTK := hid htk
                  have C3 : ∀ W, NmMap W (gm + 1) gm n F → Hid (Calls Tryd.prog 44 #[.string Z, .pointer (some ⟨gm + 1, 0, none⟩)] W fun e w' => e = .returned (.string FZ) ∧ Below W.heap.size W w') := fun W h => hid (by have := ast_rename1 Z (gm + 1) gm n F W h hZs; rw [hFZ] at this; exact this)
                  have HC3 := hid C3
                  by_cases hm : renF F v ∈ (VL.take j).map (renF F)
                  · have hs : EB.R ((setF ((VL.take j).map (renF F)) FZ.data.toList).getD false) = .bool true := by rw [hFd, setF_get, decide_eq_true hm]; rfl
                    have HS := hid hs
                    have hx8 := HDR.out (hmt hm)
                    have HX8 := hid hx8
                    clear hcv hmt hmn htk ev hZ hZd hFZ hFd C3 hs hx8 hm hfl hvv
                    go_wp2_with fail
                    refine (HC3.out _ HMj.out).out.mono ?_
                    rintro e w5 ⟨rfl, b5⟩
                    have ST5 := hid (MapAt.below HSj.out b5)
                    have HQ5 := hid (HQj.out.on b5 HQj.out.size)
                    clear b5
                    obtain ⟨q0, q1, q2, q3, q4, qz, qlt, hbel⟩ := HQ5.out.cells
                    go_wp2_with (first
                      | (at_lookup; refine wpList_look rfl _ _ rfl ST5.out EB_ok Tryd.underlying9 Tryd.underlying87 rfl FZ rfl hFs (.bool true) HS.out ?_)
                      | (refine wpList_stored2 rfl rfl rfl rfl qz infoQryN rfl rfl ?_; intro w9 hz9 hg9))
                    have hx : 8 = x := HX8.out.symm.trans HX.out
                    subst hx
                    refine bodyPost_ret (by simp [results, Tryd.results16, go_sem, cell_res' hz9]; rfl) rfl ?_
                    exact ⟨_, rfl, .inl ⟨by decide, rfl⟩, hbel.grown hg9 hbel.size (fun k e => by injection e with e; omega)⟩
                  · have hs : EB.R ((setF ((VL.take j).map (renF F)) FZ.data.toList).getD false) = .bool false := by rw [hFd, setF_get, decide_eq_false hm]; rfl
                    have HS := hid hs
                    have HN2 := hid (hmn hm)
                    clear hcv hmt hmn htk ev hZ hZd hFZ hFd C3 hs hm hfl hvv
                    go_wp2_with fail
                    refine (HC3.out _ HMj.out).out.mono ?_
                    rintro e w5 ⟨rfl, b5⟩
                    have ST5 := hid (MapAt.below HSj.out b5)
                    have HM5 := hid (HMj.out.below b5)
                    have HV5 := hid (HVj.out.below b5)
                    have HB5 := hid (HBj.out.trans (b5.mono HBj.out.size))
                    clear b5 HSj HMj HVj HBj g0
                    go_wp2_with (at_lookup; refine wpList_look rfl _ _ rfl ST5.out EB_ok Tryd.underlying9 Tryd.underlying87 rfl FZ rfl hFs (.bool false) HS.out ?_)
                    refine (HC3.out _ HM5.out).out.mono ?_
                    rintro e w6 ⟨rfl, b6⟩
                    have ST6 := hid (MapAt.below ST5.out b6)
                    have HV6 := hid (HV5.out.below b6)
                    have HB6 := hid (HB5.out.trans (b6.mono HB5.out.size))
                    clear b6 ST5 HM5 HV5 HB5
                    go_wp2_with (at_mapUpdate; refine wpList_put rfl _ _ _ rfl ST6.out Tryd.underlying9 Tryd.underlying87 (by unfold maxLen; omega) rfl FZ rfl hFs true rfl EB_true ?_; intro w7 hmap7 hg7)
                    rw [setF_put, HFD.out, ← HTK.out] at hmap7
                    have HS7 := hid hmap7
                    have HV7 := hid (HV6.out.put ST6.out hg7)
                    have HB7 := hid (HB6.out.grown hg7 HB6.out.size (fun j hj => by injection hj with hj; omega))
                    clear hmap7 hg7 ST6 HV6 HB6
                    go_wp2
                    go_roundw
                    case rel => exact ⟨j + 1, by omega, (by first | rfl | go_num), HS7, HN2, HV7, HB7⟩
                    case measure => simp [intOf]; omega
                · have hnn := HNj.out
                  rw [List.take_of_length_le (by omega)] at hnn
                  have HNK2 := hid (HNX.out hnn)
                  clear hnn
                  go_wp2
                  go_roundw
                  case rel => exact ⟨k + 1, by omega, (by first | rfl | go_num), HNK2, HMj, HQj⟩
                  case measure => simp [intOf]; omega
            · have hend := renE_end (q := ⟨hd, ga, av, rs, os⟩) (fr := fr) (tos := tos) HC0.out HL.out HND2.out (by rw [HFF.out]; exact fun i hi => HNK.out i hi (by have h : i < rs.length := hi; omega))
              rw [HFF.out] at hend
              obtain ⟨y1, e1⟩ : ∃ y, checkQ (mapQ (renF F) ⟨hd, ga, av, rs, os⟩) = y := ⟨_, rfl⟩
              have hx : y1 = x := by rw [← e1, ← hend]; exact HX.out
              have HXE := hid hx
              have hfl2 : ∀ v : Str, v.length ≤ 9223372036854775807 → (renF F v).length ≤ 9223372036854775807 := fun v hv => by rw [← HFF.out]; exact renF_len HTL.out hv
              have C4 := ast_replace (renF F) (gm + 1) ⟨hd, ga, av, rs, os⟩ A R O ch cr co wo (HQ.out.below hbel) HWF.out (check_some HC0.out) (fun W Z hb hz => hid (ast_rename1 Z (gm + 1) gm n F W (HM.out.below hb) hz))
              have C5 := fun A2 R2 O2 c2 c3 c4 W h => hid (ast_check (mapQ (renF F) ⟨hd, ga, av, rs, os⟩) A2 R2 O2 c2 c3 c4 W h (map_wf HWF.out hfl2) e1)
              obtain ⟨Y2, hY2, _, _⟩ := nm (renF F av)
              unfold qryV at C4 C5
              simp only [HY.out] at C4
              simp only [mapQ, hY2, List.length_map] at C5
              have HC4 := hid C4
              have HC5 := hid C5
              have HY2 := hid hY2
              clear hend e1 hx hfl2 C4 C5 hY2
              go_wp2_with fail
              refine HC4.out.mono ?_
              rintro e w5 ⟨A2, R2, O2, c2, c3, c4, rfl, hq2, b5⟩
              have HQ2 := hid hq2
              have HQ5 := hid (HQI.out.on b5 HQI.out.size)
              clear hq2 q0 q1 q2 q3 q4 qz qlt hbel
              unfold qryV
              simp only [mapQ, HY2.out, List.length_map]
              go_upto_region 29 with fail
              have h1 := below_one w5 (.cells #[.slice A2 hd.length c2, .int .i64 ga, .string Y2, .slice R2 rs.length c3, .slice O2 os.length c4] 26)
              have hb8 := heap_alloc_new w5 (.cells #[.slice A2 hd.length c2, .int .i64 ga, .string Y2, .slice R2 rs.length c3, .slice O2 os.length c4] 26)
              have HB8 := hid hb8
              have HQ6 := hid (HQ5.out.on h1 HQ5.out.size)
              have hov1 : Over wo.heap.size w5 (w5.alloc (.cells #[.slice A2 hd.length c2, .int .i64 ga, .string Y2, .slice R2 rs.length c3, .slice O2 os.length c4] 26)) := fun b _ hl => h1.block b hl
              have HOV := hid hov1
              have hws5 := b5.size
              obtain ⟨p0, p1, p2, p3, p4, plt⟩ := rbox hb8
              have hg2 : (w5.alloc (.cells #[.slice A2 hd.length c2, .int .i64 ga, .string Y2, .slice R2 rs.length c3, .slice O2 os.length c4] 26)).heap.size = w5.heap.size + 1 := by simp
              clear h1 hb8 hov1 b5 HQ5
              have HG2 := hid hg2
              clear hg2
              generalize (w5.alloc (.cells #[.slice A2 hd.length c2, .int .i64 ga, .string Y2, .slice R2 rs.length c3, .slice O2 os.length c4] 26)) = w6 at *
              go_wp2_with fail
              refine (HC5.out A2 R2 O2 c2 c3 c4 w6 (HQ2.out _ HOV.out)).out.mono ?_
              rintro e w7 ⟨rfl, b7⟩
              have HB9 := hid (res_keep' HB8.out b7 (lt_of_block HB8.out))
              have HQ7 := hid (HQ6.out.on b7 HQ6.out.size)
              have hov2 : Over wo.heap.size w5 w7 := fun b hb hl => by
                have := HG2.out
                rw [b7.block b (by omega)]; exact HOV.out b hb hl
              have HOV2 := hid hov2
              have hws7 := b7.size
              clear b7 HQ6 HB8 p0 p1 p2 p3 p4 plt hov2 HOV
              obtain ⟨q0, q1, q2, q3, q4, qz, qlt, hbel⟩ := HQ7.out.cells
              obtain ⟨p0, p1, p2, p3, p4, plt⟩ := rbox HB9.out
              by_cases h1 : y1 = 0
              · have bq1 : (y1 != 0) = false := by simpa using h1
                have HH1 := hid h1
                clear h1
                go_wp2_with (refine wpList_stored2 rfl rfl rfl rfl qz infoQryN rfl rfl ?_; intro w9 hz9 hg9)
                refine bodyPost_ret (by simp [results, Tryd.results16, go_sem, cell_res' hz9]; rfl) rfl ?_
                have hx0 : 0 = x := HH1.out.symm.trans HXE.out
                subst hx0
                obtain rfl := HFF.out
                refine ⟨_, rfl, .inr ⟨rfl, A2, R2, O2, c2, c3, c4, ?_, ?_⟩, hbel.grown hg9 hbel.size (fun k e => by injection e with e; omega)⟩
                · unfold qryV
                  simp only [mapQ, HY2.out, List.length_map]
                · intro w2 ho
                  refine HQ2.out _ (fun b hb hl => ?_)
                  have hs9 := hg9.size
                  have := HG2.out
                  have hqs := HQI.out.size
                  rw [ho b (by omega) (by omega), hg9.block b (by omega) (by simp; omega)]
                  exact HOV2.out b hb hl
              · have bq1 : (y1 != 0) = true := by simpa using h1
                have HH1 := hid h1
                clear h1
                go_wp2_with (refine wpList_stored2 rfl rfl rfl rfl qz infoQryN rfl rfl ?_; intro w9 hz9 hg9)
                refine bodyPost_ret (by simp [results, Tryd.results16, go_sem, cell_res' hz9]; rfl) rfl ?_
                have hx0 := HXE.out
                subst hx0
                exact ⟨_, rfl, .inl ⟨HH1.out, rfl⟩, hbel.grown hg9 hbel.size (fun k e => by injection e with e; omega)⟩
    · have bl : ((fr.length : Int) != (tos.length : Int)) = true := by rw [bne_iff_ne]; omega
      have hx : 1 = x := (renE_len HC0.out hl).symm.trans HX.out
      subst hx
      go_wp2_with (refine wpList_stored2 rfl rfl rfl rfl qz infoQryN rfl rfl ?_; intro w9 hz9 hg9)
      refine bodyPost_ret (by simp [results, Tryd.results16, go_sem, cell_res' hz9]; rfl) rfl ?_
      exact ⟨_, rfl, .inl ⟨by decide, rfl⟩, hbel.grown hg9 hbel.size (fun k e => by injection e with e; omega)⟩
  · have bq : (y0 != 0) = true := by simpa using h0
    have hx : y0 = x := by
      have h1 : checkQ ⟨hd, ga, av, rs, os⟩ ≠ 0 := by rw [HE0.out]; exact h0
      have := HX.out
      rw [renE_check h1, HE0.out] at this
      exact this
    subst hx
    go_wp2_with (refine wpList_stored2 rfl rfl rfl rfl qz infoQryN rfl rfl ?_; intro w9 hz9 hg9)
    refine bodyPost_ret (by simp [results, Tryd.results16, go_sem, cell_res' hz9]; rfl) rfl ?_
    exact ⟨_, rfl, .inl ⟨h0, rfl⟩, hbel.grown hg9 hbel.size (fun k e => by injection e with e; omega)⟩
end Go.Proofs.YtgeapgbebbapmaaDoor
