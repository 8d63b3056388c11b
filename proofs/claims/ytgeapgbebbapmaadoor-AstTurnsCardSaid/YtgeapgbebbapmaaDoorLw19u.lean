/-
  WALK: the law AstTurns.
-/
import Derived.Test.YtgeapgbebbapmaaDoorAw19
import Derived.Test.YtgeapgbebbapmaaDoorOrA
import Derived.Test.YtgeapgbebbapmaaDoorTu
import Derived.Test.YtgeapgbebbapmaaDoorRen3
import Derived.Test.YtgeapgbebbapmaaDoorEqA
import Derived.Test.YtgeapgbebbapmaaDoorLits
import Derived.BigQuiet
namespace Go.Proofs.YtgeapgbebbapmaaDoor
open Go.RowKit

theorem vals_names {q : Qry} (h : q.wf) : ∀ s ∈ allQ q.rules, s.length ≤ 9223372036854775807 := by
  intro s hs
  obtain ⟨r, hr, hv⟩ := allQ_in.1 hs
  exact vars_len (h.rules r hr) s hv
theorem fresh_len4 {n : Nat} : ∀ s ∈ freshL n, s.length ≤ 9223372036854775807 := by
  intro s hs
  obtain ⟨j, _, rfl⟩ := List.mem_map.1 hs
  simp [frL]

set_option maxRecDepth 100000 in
set_option maxHeartbeats 16000000 in
theorem law_turns19 (q : Qry) (A R O : Option Addr) (ch cr co : Nat) (w : World) (hq : QryIn w q A R O ch cr co) (hwf : q.wf) (htab : Tab w) :
    Calls Tryd.prog 8 #[qryV q A R O ch cr co] w fun e w' => e = .returned (.bool true) ∧ Below w.heap.size w w' := by
  obtain ⟨y, ey⟩ : ∃ y, checkQ q = y := ⟨_, rfl⟩
  have CG := fun W h => hid (law_great19 q A R O ch cr co W h)
  have CK := fun W h => hid (ast_check q A R O ch cr co W h hwf ey)
  have CA := fun W (b : Below w.heap.size w W) => hid (law_awake19 W (htab.below b))
  have CO := fun (h0 : checkQ q = 0) W h => hid (ast_order q A R O ch cr co W h hwf (check_some h0).h (check_some h0).o)
  have CR := fun W Fa Ta fc tc h (h1 : NmsAt W Fa (allQ q.rules)) (h2 : NmsAt W Ta (freshL (allQ q.rules).length)) l1 l2 => hid (ast_rename q (allQ q.rules) (freshL (allQ q.rules).length) A R O Fa Ta ch cr co fc tc W h hwf h1 h2 (vals_names hwf) fresh_len4 l1 l2 rfl)
  have CE := fun A3 R3 O3 d1 d2 d3 W h h' => hid (ast_equal q q A3 R3 O3 A R O d1 d2 d3 ch cr co W h h' (b := true) (by simp))
  have HQ := hid hq
  have HY := hid ey
  have HWF := hid hwf
  obtain ⟨i0, hi, hz0, hz1, hz2⟩ := info_parts infoStr
  obtain ⟨Y, hY⟩ : ∃ Y : ByteArray, (⟨q.aggVar.toArray⟩ : ByteArray) = Y := ⟨_, rfl⟩
  have hqv : ∀ A R O ch cr co, qryV q A R O ch cr co = .agg #[.slice A q.head.length ch, .int .i64 q.agg, .string Y, .slice R q.rules.length cr, .slice O q.order.length co] := by intro A R O ch cr co; unfold qryV; rw [hY]
  have HQV := hid hqv
  simp only [hqv] at CG CK CO CR CE ⊢
  have HB0 : Hid (Below (w.heap.size + 1) (w.alloc (.cells #[.slice A q.head.length ch, .int .i64 q.agg, .string Y, .slice R q.rules.length cr, .slice O q.order.length co] 26)) (w.alloc (.cells #[.slice A q.head.length ch, .int .i64 q.agg, .string Y, .slice R q.rules.length cr, .slice O q.order.length co] 26))) := hid (Below.refl _ _)
  obtain ⟨q0, q1, q2, q3, q4, ql, hbel⟩ := qry_cells HB0.out
  clear hY hqv hq ey htab hwf
  go_enter Tryd.func8, Tryd.ntmps8
  go_wp2_with fail
  refine (CG _ (HQ.out.below hbel)).out.mono ?_
  rintro e w1 ⟨bg, rfl, b1⟩
  have HB1 := hid (HB0.out.trans (b1.mono (by simp)))
  clear CG b1 HB0 hbel q0 q1 q2 q3 q4 ql
  obtain ⟨q0, q1, q2, q3, q4, ql, hbel⟩ := qry_cells HB1.out
  cases bg
  · skip
    go_wp2_with fail
    refine (CK _ (HQ.out.below hbel)).out.mono ?_
    rintro e w2 ⟨rfl, b2⟩
    have HB2 := hid (HB1.out.trans (b2.mono (by omega)))
    clear CK b2 HB1 hbel q0 q1 q2 q3 q4 ql
    obtain ⟨q0, q1, q2, q3, q4, ql, hbel⟩ := qry_cells HB2.out
    by_cases hy : y = 0
    · skip
      have hc0 : checkQ q = 0 := HY.out.trans hy
      subst hy
      have hr3 := (check_few hc0).1.2
      have HF := hid (fun r hr => (check_few hc0).2 r hr)
      have HV8 := hid (fun r hr => check_vars hc0 (r := r) hr)
      have HCN := hid (fun r hr => conds_ne (rule_items_zero (firstE_zero (check_parts hc0).2.2.2.2.2.1 r hr)))
      have HA : Hid ((((q.rules.drop 0).flatMap varsL).foldl addN []) = allQ q.rules) := hid rfl
      have HC0 := hid hc0
      have HO30 : Hid (w2.ownsRow (w.heap.size + 1) 9 1 (.slice none 0 0) 0 (([] : List Str).map nmV)) := hid (World.ownsRow_nil _ _ _ _)
      have HO40 : Hid (w2.ownsRow (w.heap.size + 1) 9 1 (.slice none 0 0) 0 ((freshL 0).map nmV)) := hid (World.ownsRow_nil _ _ _ _)
      obtain ⟨XQ, hXQ⟩ : ∃ x, allQ q.rules = x := ⟨_, rfl⟩
      have HXQ := hid hXQ
      rw [hXQ] at HA
      clear hc0 hXQ
      go_wp2
      clear q0 q1 q2 q3 q4 ql hbel
      go_loopw [5, 3, 4] (fun i u3 u4 wr => ∃ (k n : Nat) (L : List Str) (A3 A4 : Option Addr) (c3 c4 : Nat), k ≤ q.rules.length ∧ i = .int .i64 k ∧ u3 = .slice A3 n c3 ∧ u4 = .slice A4 n c4 ∧ n ≤ k * 8 ∧ Hid (L.length = n) ∧ Hid (((q.rules.drop k).flatMap varsL).foldl addN L = XQ) ∧ Hid (wr.ownsRow (w.heap.size + 1) 9 1 (.slice A3 n c3) n (L.map nmV)) ∧ Hid (wr.ownsRow (w.heap.size + 1) 9 1 (.slice A4 n c4) n ((freshL n).map nmV)) ∧ Hid (Apart (.slice A3 n c3) (.slice A4 n c4)) ∧ Hid (Below (w.heap.size + 1) (w.alloc (.cells #[.slice A q.head.length ch, .int .i64 q.agg, .string Y, .slice R q.rules.length cr, .slice O q.order.length co] 26)) wr)) (fun i _ _ _ => q.rules.length - (intOf i).toNat)
      case atStart => exact ⟨0, 0, [], none, none, 0, 0, by omega, rfl, rfl, rfl, by omega, hid rfl, HA, HO30, HO40, hid (Apart.nil _), HB2⟩
      case round =>
        clear HO30 HO40 HA HB2
        obtain ⟨k, n, L, A3, A4, c3, c4, hk, rfl, rfl, rfl, hn, HL, HA, HO3, HO4, HAP, HB⟩ := hrel
        obtain ⟨q0, q1, q2, q3, q4, ql, hbel⟩ := qry_cells HB.out
        have hsz := HB.out.size
        rw [World.size_alloc] at hsz
        by_cases hlt : k < q.rules.length
        · skip
          obtain ⟨br, orr, rfl, hcr⟩ := (HQ.out.below hbel).rules (by omega)
          obtain ⟨T, ct, T2, ct2, r0, r1, ha, hcn, _, _, _, _⟩ := hcr k hlt
          have hf1 := HF.out _ (List.getElem_mem hlt)
          have hv8 := HV8.out _ (List.getElem_mem hlt)
          have hne := HCN.out _ (List.getElem_mem hlt)
          have hst := (all_rule hlt L).symm.trans HA.out
          have hvn : ∀ v ∈ varsL q.rules[k], v ≠ [] := fun v hv => (vars_in.1 hv).2
          obtain ⟨r, er⟩ : ∃ r, q.rules[k] = r := ⟨_, rfl⟩
          rw [er] at r0 r1 ha hcn hf1 hv8 hne hst hvn
          obtain ⟨l, el⟩ : ∃ l, varsL r = l := ⟨_, rfl⟩
          have C1 := fun W (b : Below wr.heap.size wr W) => hid (ref_vars19 r T T2 ct ct2 W (ha.below b) (hcn.below b) hf1 hne el)
          rw [el] at hv8 hst hvn
          have HST : Hid (((q.rules.drop (k + 1)).flatMap varsL).foldl addN ((l.drop 0).foldl addN L) = XQ) := hid hst
          have HVN := hid hvn
          clear hcr ha hcn hf1 hne hst hvn er el HA
          go_wp2_with fail
          refine (C1 _ (Below.refl _ _)).out.mono ?_
          rintro e w6 ⟨A6, c6, rfl, ho6, b6⟩
          have HO36 := hid (own_belowS HO3.out b6)
          have HO46 := hid (own_belowS HO4.out b6)
          have HO6 := hid (own_lower ho6 hsz)
          have HP36 := hid (Apart.of HO3.out ho6 (Nat.le_refl _))
          have HP46 := hid (Apart.of HO4.out ho6 (Nat.le_refl _))
          have HB6 := hid (HB.out.trans (b6.mono hsz))
          obtain ⟨nl, hnl⟩ : ∃ n, l.length = n := ⟨_, rfl⟩
          rw [hnl] at hv8 HO6 HP36 HP46
          simp only [hnl]
          have HNL := hid hnl
          clear hnl C1 b6 ho6 HO3 HO4 HB q0 q1 q2 q3 q4 r0 r1 ql hbel
          go_wp2
          rename World => wo
          go_loopw [7, 3, 4] (fun i u3 u4 wr => ∃ (j n : Nat) (L : List Str) (A3 A4 : Option Addr) (c3 c4 : Nat), j ≤ nl ∧ i = .int .i64 j ∧ u3 = .slice A3 n c3 ∧ u4 = .slice A4 n c4 ∧ n ≤ k * 8 + j ∧ Hid (L.length = n) ∧ Hid (((q.rules.drop (k + 1)).flatMap varsL).foldl addN ((l.drop j).foldl addN L) = XQ) ∧ Hid (wr.ownsRow (w.heap.size + 1) 9 1 (.slice A3 n c3) n (L.map nmV)) ∧ Hid (wr.ownsRow (w.heap.size + 1) 9 1 (.slice A4 n c4) n ((freshL n).map nmV)) ∧ Hid (wr.ownsRow (w.heap.size + 1) 9 1 (.slice A6 nl c6) nl (l.map nmV)) ∧ Hid (Apart (.slice A3 n c3) (.slice A4 n c4)) ∧ Hid (Apart (.slice A3 n c3) (.slice A6 nl c6)) ∧ Hid (Apart (.slice A4 n c4) (.slice A6 nl c6)) ∧ Hid (Below (w.heap.size + 1) (w.alloc (.cells #[.slice A q.head.length ch, .int .i64 q.agg, .string Y, .slice (some ⟨br, orr, none⟩) q.rules.length cr, .slice O q.order.length co] 26)) wr)) (fun i _ _ _ => nl - (intOf i).toNat)
          case atStart => exact ⟨0, n, L, A3, A4, c3, c4, by omega, rfl, rfl, rfl, by omega, HL, HST, HO36, HO46, HO6, HAP, HP36, HP46, HB6⟩
          case round =>
            clear HO36 HO46 HO6 HAP HP36 HP46 HB6 HST HL
            obtain ⟨j, n, L, A3, A4, c3, c4, hj, rfl, rfl, rfl, hn, HL, HST, HO3, HO4, HO6, HAP, HP36, HP46, HB⟩ := hrel
            have hsz := HB.out.size
            rw [World.size_alloc] at hsz
            by_cases hlt2 : j < nl
            · have hlt3 : j < l.length := by rw [HNL.out]; exact hlt2
              have ho6 := HO6.out
              rw [← HNL.out] at ho6
              obtain ⟨_, _, hu6, hA6, _⟩ := own_names ho6
              injection hu6 with e1 _ e3
              subst e1 e3
              obtain ⟨bv, ov, rfl, hcv⟩ := hA6 (by omega)
              have e0 := hcv j hlt3
              have hnm := HVN.out _ (List.getElem_mem hlt3)
              have hst := HST.out
              rw [all_name hlt3] at hst
              obtain ⟨v, ev⟩ : ∃ v, l[j] = v := ⟨_, rfl⟩
              rw [ev] at e0 hnm hst
              obtain ⟨Z, hZ, hZd, hZl⟩ := nm v
              rw [hZ] at e0
              have ho3 := HO3.out
              rw [← HL.out] at ho3
              obtain ⟨_, _, hu3, hA3, _⟩ := own_names ho3
              injection hu3 with e1 _ e3
              subst e1 e3
              have HA3 := hid hA3
              obtain ⟨ix, hix⟩ : ∃ i, idxL L Z.data.toList = i := ⟨_, rfl⟩
              have hin := idxL_in L Z.data.toList
              rw [hix, hZd] at hin
              have CI := fun W c h => hid (ref_index A3 c L Z W h (by rw [HL.out]; omega) hix)
              rw [HL.out] at CI
              have hj0 : (0 : Int) ≤ (j : Int) := by omega
              have hj1 : (j : Int) < (nl : Int) := by omega
              by_cases hm : v ∈ L
              · have hix0 : 0 ≤ ix := hin.1.2 hm
                have HN : Hid (((q.rules.drop (k + 1)).flatMap varsL).foldl addN ((l.drop (j + 1)).foldl addN L) = XQ) := hid (by
                  rw [show addN L v = L from by unfold addN; rw [if_pos (.inr hm)]] at hst
                  exact hst)
                clear hst hin hix hZ hZd hZl ev hcv hA3 hA6 ho3 ho6 HST hm
                go_wp2_with fail
                refine (CI _ _ HA3.out).out.mono ?_
                rintro e w7 ⟨rfl, rfl⟩
                clear CI HA3
                go_wp2
                go_roundw
                case rel => exact ⟨j + 1, n, L, _, _, _, _, by omega, by go_num, rfl, rfl, by omega, HL, HN, HO3, HO4, HO6, HAP, HP36, HP46, HB⟩
                case measure => simp [intOf]; omega
              · have hix0 : ix < 0 := by
                  apply Classical.byContradiction
                  intro h
                  exact hm (hin.1.1 (by omega))
                have HN : Hid (((q.rules.drop (k + 1)).flatMap varsL).foldl addN ((l.drop (j + 1)).foldl addN (L ++ [v])) = XQ) := hid (by
                  rw [show addN L v = L ++ [v] from by unfold addN; rw [if_neg (by rintro (h | h); exact hnm h; exact hm h)]] at hst
                  exact hst)
                have hn24 : n ≤ 40 := by omega
                obtain ⟨ca, hca⟩ : ∃ c : UInt8, UInt8.ofNat (97 + (n + 1) / 8) = c := ⟨_, rfl⟩
                obtain ⟨cb, hcb⟩ : ∃ c : UInt8, UInt8.ofNat (97 + (n + 1) % 8) = c := ⟨_, rfl⟩
                have hcan : (97 + ((n : Int) + 1) / 8) = ca.toNat := by rw [← hca]; simp; omega
                have hcbn : (97 + ((n : Int) + 1) % 8) = cb.toNat := by rw [← hcb]; simp; omega
                have hl2 := fun W => lit2 W ca cb (97 + ((n : Int) + 1) / 8) (97 + ((n : Int) + 1) % 8) hcan hcbn
                have i1 : 0 ≤ ((n : Int) + 1) / 8 := by omega
                have i2 : ((n : Int) + 1) / 8 < 8 := by omega
                have i3 : 0 ≤ ((n : Int) + 1) % 8 := by omega
                have i4 : ((n : Int) + 1) % 8 < 8 := by omega
                have HFR : Hid (freshL (n + 1) = freshL n ++ [[90, 95, ca, cb]]) := hid (by rw [freshL_succ, ← hca, ← hcb]; rfl)
                have HZ := hid hZ
                clear hst hin hix hZ hZd hZl ev hcv hA3 hA6 ho3 ho6 HST hm hca hcb hcan hcbn hnm
                go_wp2_with fail
                refine (CI _ _ HA3.out).out.mono ?_
                rintro e w7 ⟨rfl, rfl⟩
                clear CI HA3
                go_upto_region 13 with (at_builtin; refine wpList_append_new_at Tryd.underlying22 hi hz0 hz1 hz2 rfl (by decide) (by decide) rfl rfl rfl HO3.out rfl (by simp) rfl rfl (by omega) (by omega) ?_; intro v8 w8 hown8 hg8 hat8; obtain ⟨g8, cap8, rfl⟩ := own_slice1 hown8)
                have HO38 : Hid (w8.ownsRow (w.heap.size + 1) 9 1 (.slice (some ⟨g8, 0, none⟩) (n + 1) cap8) (n + 1) ((L ++ [v]).map nmV)) := hid (by
                  rw [List.map_append, List.map_singleton, show nmV v = .string Z by rw [← HZ.out]; rfl]
                  exact hown8)
                have HO48 := hid (HAP.out.kept HO4.out hg8)
                have HO68 := hid (HP36.out.kept HO6.out hg8)
                have HAP8 := hid (HAP.out.next HO4.out hat8 (by omega))
                have HP368 := hid (HP36.out.next HO6.out hat8 (by omega))
                have HB8 := hid (HB.out.trans (grown_below HO3.out hg8 (by omega)))
                have hsz8 := hg8.size
                have HL8 : Hid ((L ++ [v]).length = n + 1) := hid (by rw [List.length_append, HL.out]; rfl)
                clear HO3 HO4 HAP HP36 HB hown8 hg8 hat8 HL HO6 e0
                go_wp2_with (at_builtin; refine wpList_append_new_at Tryd.underlying22 hi hz0 hz1 hz2 rfl (by decide) (by decide) rfl rfl rfl (HO48.out.alloc _) rfl (by simp) rfl rfl (by omega) (by simp; omega) ?_; intro v9 w9 hown9 hg9 hat9; obtain ⟨g9, cap9, rfl⟩ := own_slice1 hown9)
                have hga : ∀ o, w8.grownBy w9 o → True := fun _ _ => trivial
                have HO49 : Hid (w9.ownsRow (w.heap.size + 1) 9 1 (.slice (some ⟨g9, 0, none⟩) (n + 1) cap9) (n + 1) ((freshL (n + 1)).map nmV)) := hid (by
                  rw [HFR.out, List.map_append, List.map_singleton, show nmV [90, 95, ca, cb] = .string (⟨#[90, 95]⟩ ++ ⟨#[ca, cb]⟩) from (str_cat [90, 95] [ca, cb]).symm]
                  exact hown9)
                have HO39 := hid (HAP8.out.symm.kept (HO38.out.alloc _) hg9)
                have HO69 := hid (HP46.out.kept (HO68.out.alloc _) hg9)
                have HAP9 := hid (HAP8.out.symm.next HO38.out hat9 (by simp; omega)).symm
                have HP469 := hid (HP46.out.next HO68.out hat9 (by simp; omega))
                have HB9 := hid (HB8.out.trans ((below_one w8 _).mono (by omega) |>.trans (grown_below (HO48.out.alloc _) hg9 (by simp; omega))))
                clear HO48 HO38 HO68 HAP8 HP46 HB8 hown9 hg9 hat9 hga hl2
                go_roundw
                case rel => exact ⟨j + 1, n + 1, L ++ [v], _, _, _, _, by omega, by go_num, rfl, rfl, by omega, HL8, HN, HO39, HO49, HO69, HAP9, HP368, HP469, HB9⟩
                case measure => simp [intOf]; omega
            · have HN : Hid (((q.rules.drop (k + 1)).flatMap varsL).foldl addN L = XQ) := hid (by
                have := HST.out
                rw [List.drop_of_length_le (by rw [HNL.out]; omega)] at this
                exact this)
              clear HST
              go_wp2
              go_roundw
              case rel => exact ⟨k + 1, n, L, _, _, _, _, by omega, by go_num, rfl, rfl, by omega, HL, HN, HO3, HO4, HAP, HB⟩
              case measure => simp [intOf]; omega
        · skip
          have hLX : L = XQ := by
            have := HA.out
            rw [List.drop_of_length_le (by omega)] at this
            exact this
          have hn24 : n ≤ 24 := by omega
          rw [hLX] at HO3 HL
          have HA3 := hid (own_nms HO3.out HL.out)
          have HA4 := hid (own_nms HO4.out (freshL_len n))
          clear HA hLX HO3 HO4 HAP
          go_wp2
          clear q0 q1 q2 q3 q4 ql hbel hsz hlt
          rename World => wa
          have hlta := HB.out.size
          rw [World.size_alloc] at hlta
          go_loopw [8] (fun i wr => ∃ k : Nat, k ≤ n ∧ i = .int .i64 k ∧ Hid (∀ j, j < k → frL j ∉ XQ) ∧ Hid (Below wa.heap.size wa wr)) (fun i _ => n - (intOf i).toNat)
          case atStart => exact ⟨0, by omega, rfl, hid (fun j h => absurd h (by omega)), hid (Below.refl _ _)⟩
          case round =>
            clear hk hn
            obtain ⟨k, hk, rfl, HD, HBR⟩ := hrel
            obtain ⟨q0, q1, q2, q3, q4, ql, hbel⟩ := qry_cells (HB.out.trans (HBR.out.mono hlta))
            by_cases hlt : k < n
            · obtain ⟨bf, of', rfl, hcf⟩ := HA4.out (by rw [freshL_len]; omega)
              have e0 := cell_keep HBR.out (hcf k (by rw [freshL_len]; omega))
              have hfk : (freshL n)[k]'(by rw [freshL_len]; omega) = frL k := by simp [freshL]
              rw [hfk] at e0
              have hd1 : frL k ∉ XQ → ∀ j, j < k + 1 → frL j ∉ XQ := fun h j hj => by
                by_cases hjk : j = k
                · rw [hjk]; exact h
                · exact HD.out j (by omega)
              have HD1 := hid hd1
              obtain ⟨v, ev⟩ : ∃ v, frL k = v := ⟨_, rfl⟩
              rw [ev] at e0 HD1
              obtain ⟨Z, hZ, hZd, hZl⟩ := nm v
              rw [hZ] at e0
              obtain ⟨ix, hix⟩ : ∃ i, idxL XQ Z.data.toList = i := ⟨_, rfl⟩
              have hin := idxL_in XQ Z.data.toList
              rw [hix, hZd] at hin
              have CI := fun W h => hid (ref_index A3 c3 XQ Z W h (by rw [HL.out]; omega) hix)
              rw [HL.out] at CI
              have hk0 : (0 : Int) ≤ (k : Int) := by omega
              have hk1 : (k : Int) < (n : Int) := by omega
              by_cases hm : v ∈ XQ
              · have hix0 : 0 ≤ ix := hin.1.2 hm
                clear hcf hfk hd1 ev hZ hZd hZl hix hin hm CO CR CE q0 q1 q2 q3 q4
                go_wp2_with fail
                refine (CI _ (HA3.out.below HBR.out)).out.mono ?_
                rintro e w7 ⟨rfl, rfl⟩
                clear CI
                go_wp2_with fail
                refine (CA _ hbel).out.mono ?_
                rintro e w6 ⟨rfl, b6⟩
                have hb6 := hbel.trans (b6.mono hbel.size)
                clear CA b6
                go_wp2
                go_ret
                exact ⟨rfl, hb6⟩
              · have hix0 : ix < 0 := by
                  apply Classical.byContradiction
                  intro h
                  exact hm (hin.1.1 (by omega))
                have HN := hid (HD1.out hm)
                clear hcf hfk hd1 ev hZ hZd hZl hix hin hm q0 q1 q2 q3 q4
                go_wp2_with fail
                refine (CI _ (HA3.out.below HBR.out)).out.mono ?_
                rintro e w7 ⟨rfl, rfl⟩
                clear CI
                go_wp2
                go_roundw
                case rel => exact ⟨k + 1, by omega, by go_num, HN, HBR⟩
                case measure => simp [intOf]; omega
            · have T := turns_all HC0.out
              rw [HXQ.out, HL.out] at T
              obtain ⟨t1, t2, t3, t4⟩ := T (fun v hv => by
                obtain ⟨j, hj, rfl⟩ := List.mem_map.1 hv
                exact HD.out j (by have := List.mem_range.1 hj; omega))
              have hfl := freshL_len n
              have HFL := hid hfl
              have hvn : ∀ s ∈ XQ, s.length ≤ 9223372036854775807 := by
                have := vals_names HWF.out
                rw [HXQ.out] at this
                exact this
              simp only [HXQ.out, HL.out, hfl, t1] at CR
              have hpw := map_wf HWF.out (f := renF (zipF XQ (freshL n))) (fun v hv => renF_len fresh_len4 hv)
              have CR1 := CR wr A3 A4 c3 c4 (HQ.out.below hbel) (HA3.out.below HBR.out) (HA4.out.below HBR.out) (by omega) (by omega)
              obtain ⟨LK, hLK⟩ : ∃ l, orderK q = l := ⟨_, rfl⟩
              have hln := orderK_names HC0.out
              have CKK := fun W h => hid ((CO HC0.out W h).out.mono fun e w' h => RetK.at (n := q.head.length) h (by rw [← hln.2.1]))
              rw [hLK] at hln CKK
              have HLN := hid (show LK.length = q.head.length ∧ (LK.map (·.v)).Nodup ∧ ∀ k ∈ LK, k.v ∈ q.head from ⟨hln.2.1, hln.1, hln.2.2⟩)
              have HHS := hid (check_some HC0.out).h
              have HHM : Hid (q.head.length ≤ 9223372036854775807) := hid (by have := HHS.out; omega)
              obtain ⟨P, hP⟩ : ∃ P, mapQ (renF (zipF XQ (freshL n))) q = P := ⟨_, rfl⟩
              rw [hP] at CR1 t2 t3 t4 hpw
              have CR2 := fun A2 R2 O2 c1 c2 c5 W Fa Ta fc tc h (h1 : NmsAt W Fa (freshL n)) (h2 : NmsAt W Ta XQ) => hid (ast_rename P (freshL n) XQ A2 R2 O2 Fa Ta c1 c2 c5 fc tc W h hpw h1 h2 fresh_len4 hvn (by rw [HFL.out]; omega) (by rw [HL.out]; omega) t2)
              simp only [t3, hfl, HL.out] at CR2
              have CE2 := fun (h0 : 0 < n) A2 R2 O2 c1 c2 c5 W h h' => hid (ast_equal P q A2 R2 O2 A R O c1 c2 c5 ch cr co W h h' (b := false) ⟨fun h => absurd h (by decide), fun e => absurd e (t4 h0)⟩)
              obtain ⟨Y2, hY2⟩ : ∃ Y : ByteArray, (⟨P.aggVar.toArray⟩ : ByteArray) = Y := ⟨_, rfl⟩
              have hpv : ∀ A R O ch cr co, qryV P A R O ch cr co = .agg #[.slice A P.head.length ch, .int .i64 P.agg, .string Y2, .slice R P.rules.length cr, .slice O P.order.length co] := by intro A R O ch cr co; unfold qryV; rw [hY2]
              simp only [hpv] at CR2 CE2
              simp only [HQV.out] at CE2
              have HPV := hid hpv
              clear t1 t2 t3 t4 hfl hvn hpw hln hLK CO CR hY2 hpv T hP HC0 HF HV8 HCN
              go_wp2_with fail
              refine CR1.out.mono ?_
              rintro e w10 ⟨v, rfl, hv, b10⟩
              rcases hv with ⟨h, _⟩ | ⟨_, A2, R2, O2, c1, c2, c5, rfl, hq2⟩
              · exact absurd rfl h
              have HB10 := hid (HB.out.trans ((HBR.out.trans (b10.mono HBR.out.size)).mono hlta))
              have HBA := hid (HBR.out.trans (b10.mono HBR.out.size))
              simp only [HPV.out]
              have hn := heap_alloc_new w10 (.cells #[.slice A2 P.head.length c1, .int .i64 P.agg, .string Y2, .slice R2 P.rules.length c2, .slice O2 P.order.length c5] 26)
              have HQ2 : Hid (∀ w5, Below w10.heap.size w10 w5 → QryIn w5 P A2 R2 O2 c1 c2 c5) := hid fun w5 b => hq2 w5 (fun b' _ hb' => b.block b' hb')
              have HN := hid hn
              have HBp := hid (below_one w10 (.cells #[.slice A2 P.head.length c1, .int .i64 P.agg, .string Y2, .slice R2 P.rules.length c2, .slice O2 P.order.length c5] 26))
              have hsz10 := HB10.out.size
              rw [World.size_alloc] at hsz10
              have hlt10 : w10.heap.size < (w10.alloc (.cells #[.slice A2 P.head.length c1, .int .i64 P.agg, .string Y2, .slice R2 P.rules.length c2, .slice O2 P.order.length c5] 26)).heap.size := by simp
              clear hn hq2 b10 CR1 HB HBR hbel q0 q1 q2 q3 q4 ql HD
              go_upto_region 20 with fail
              have HB11 := hid (HB10.out.trans (HBp.out.mono hsz10))
              have HBA11 := hid (HBA.out.trans (HBp.out.mono HBA.out.size))
              generalize (w10.alloc (.cells #[.slice A2 P.head.length c1, .int .i64 P.agg, .string Y2, .slice R2 P.rules.length c2, .slice O2 P.order.length c5] 26)) = w11 at *
              obtain ⟨p0, p1, p2, p3, p4, pl⟩ := rbox HN.out
              have CR3 := CR2 A2 R2 O2 c1 c2 c5 w11 A4 A3 c4 c3 (HQ2.out _ HBp.out) (HA4.out.below HBA11.out) (HA3.out.below HBA11.out)
              clear CR2 HB10 HBA
              go_wp2_with fail
              refine CR3.out.mono ?_
              rintro e w12 ⟨v, rfl, hv, b12⟩
              rcases hv with ⟨h, _⟩ | ⟨_, A5, R5, O5, d1, d2, d3, rfl, hq5⟩
              · exact absurd rfl h
              simp only [HQV.out]
              have hn := heap_alloc_new w12 (.cells #[.slice A5 q.head.length d1, .int .i64 q.agg, .string Y, .slice R5 q.rules.length d2, .slice O5 q.order.length d3] 26)
              have HQ5 : Hid (∀ w5, Below w12.heap.size w12 w5 → QryIn w5 q A5 R5 O5 d1 d2 d3) := hid fun w5 b => hq5 w5 (fun b' _ hb' => b.block b' hb')
              have HN5 := hid hn
              have HBp5 := hid (below_one w12 (.cells #[.slice A5 q.head.length d1, .int .i64 q.agg, .string Y, .slice R5 q.rules.length d2, .slice O5 q.order.length d3] 26))
              have hs12 := b12.size
              have HB12 := hid (HB11.out.trans (b12.mono (by have := HB11.out.size; simp only [World.size_alloc] at this; omega)))
              have HBP12 := hid (HBp.out.trans (b12.mono (by omega)))
              have hsz12 := HB12.out.size
              rw [World.size_alloc] at hsz12
              clear hn hq5 CR3 p0 p1 p2 p3 p4
              go_upto_region 21 with fail
              have HB13 := hid (HB12.out.trans (HBp5.out.mono hsz12))
              have HBP13 := hid (HBP12.out.trans (HBp5.out.mono (by omega)))
              have HN13 := hid ((HBp5.out.block _ (by omega)).trans ((b12.block _ pl).trans HN.out))
              generalize (w12.alloc (.cells #[.slice A5 q.head.length d1, .int .i64 q.agg, .string Y, .slice R5 q.rules.length d2, .slice O5 q.order.length d3] 26)) = w13 at *
              obtain ⟨q0, q1, q2, q3, q4, ql, hbel⟩ := qry_cells HB13.out
              obtain ⟨s0, s1, s2, s3, s4, sl⟩ := rbox HN5.out
              clear HN HN5 HB12 HBP12 b12 HB11 HBA11 HBp
              have CE1 := CE A5 R5 O5 d1 d2 d3 w13 (HQ5.out _ HBp5.out) (HQ.out.below hbel)
              clear CE HQ5 HBp5
              by_cases hn0 : 0 < n
              · have CE3 := CE2 hn0
                clear CE2
                go_wp2_with fail
                refine CE1.out.mono ?_
                rintro e w14 ⟨rfl, b14⟩
                have HB14 := hid (HB13.out.trans (b14.mono (by have := HB13.out.size; simp only [World.size_alloc] at this; omega)))
                have HN14 := hid ((b14.block _ (lt_of_block HN13.out)).trans HN13.out)
                have HBP14 := hid (HBP13.out.trans (b14.mono (by have := HBP13.out.size; omega)))
                clear CE1 HB13 HN13 HBP13 b14 q0 q1 q2 q3 q4 ql hbel s0 s1 s2 s3 s4 sl
                obtain ⟨q0, q1, q2, q3, q4, ql, hbel⟩ := qry_cells HB14.out
                obtain ⟨p0, p1, p2, p3, p4, pl⟩ := rbox HN14.out
                go_wp2_with fail
                refine (CE3 A2 R2 O2 c1 c2 c5 _ (HQ2.out _ HBP14.out) (HQ.out.below hbel)).out.mono ?_
                rintro e w15 ⟨rfl, b15⟩
                have HB := hid (HB14.out.trans (b15.mono (by have := HB14.out.size; simp only [World.size_alloc] at this; omega)))
                clear CE3 HB14 HN14 HBP14 b15 q0 q1 q2 q3 q4 ql hbel p0 p1 p2 p3 p4 pl
                obtain ⟨q0, q1, q2, q3, q4, ql, hbel⟩ := qry_cells HB.out
                go_wp2_with fail
                refine (CKK _ (HQ.out.below hbel)).out.mono ?_
                rintro e wk ⟨AK, cK, rfl, hk, bk⟩
                have HK := hid hk
                have HBK := hid (HB.out.trans (bk.mono (by have := HB.out.size; simp only [World.size_alloc] at this; omega)))
                clear CKK bk hk HB hbel q0 q1 q2 q3 q4 ql
                obtain ⟨q0, q1, q2, q3, q4, ql, hbel⟩ := qry_cells HBK.out
                have hszk := HBK.out.size
                rw [World.size_alloc] at hszk
                have HO0 : Hid (wk.ownsRow wk.heap.size 9 1 (.slice none 0 0) 0 (((LK.take 0).map (·.v)).map nmV)) := hid (World.ownsRow_nil _ _ _ _)
                go_wp2
                clear q0 q1 q2 q3 q4 ql hbel
                go_loopw [15, 14] (fun i u14 wr => ∃ (k : Nat) (A14 : Option Addr) (c14 : Nat), k ≤ q.head.length ∧ i = .int .i64 k ∧ u14 = .slice A14 k c14 ∧ Hid (wr.ownsRow wk.heap.size 9 1 (.slice A14 k c14) k (((LK.take k).map (·.v)).map nmV)) ∧ Hid (Below wk.heap.size wk wr)) (fun i _ _ => q.head.length - (intOf i).toNat)
                case atStart => exact ⟨0, none, 0, by omega, rfl, rfl, HO0, hid (Below.refl _ _)⟩
                case round =>
                  clear HO0
                  obtain ⟨k, A14, c14, hk, rfl, rfl, HO, HBR⟩ := hrel
                  obtain ⟨q0, q1, q2, q3, q4, ql, hbel⟩ := qry_cells (HBK.out.trans (HBR.out.mono hszk))
                  have hszr := HBR.out.size
                  by_cases hlt : k < q.head.length
                  · have hlt2 : k < LK.length := by rw [HLN.out.1]; exact hlt
                    obtain ⟨bk, ok, rfl, hck⟩ := HK.out (by omega)
                    have e0 := cell_keep HBR.out (hck k hlt2).1
                    have hin := HLN.out.2.2 _ (List.getElem_mem hlt2)
                    have hni : LK[k].v ∉ (LK.take k).map (·.v) := by
                      intro hm
                      obtain ⟨x, hx, e⟩ := List.mem_map.1 hm
                      obtain ⟨j, hj, rfl⟩ := List.getElem_of_mem hx
                      rw [List.length_take] at hj
                      rw [List.getElem_take] at e
                      have hp := List.nodup_iff_pairwise_ne.1 HLN.out.2.1
                      rw [List.pairwise_map, List.pairwise_iff_getElem] at hp
                      exact hp j k (by omega) hlt2 (by omega) e
                    have hsn : (LK.take (k + 1)).map (·.v) = (LK.take k).map (·.v) ++ [LK[k].v] := by
                      rw [List.take_succ_eq_append_getElem hlt2, List.map_append]; rfl
                    have hsl : ((LK.take k).map (·.v)).length = k := by rw [List.length_map, List.length_take]; omega
                    obtain ⟨v, ev⟩ : ∃ v, LK[k].v = v := ⟨_, rfl⟩
                    rw [ev] at e0 hin hni hsn
                    obtain ⟨S, hS⟩ : ∃ l, (LK.take k).map (·.v) = l := ⟨_, rfl⟩
                    rw [hS] at hni hsn hsl HO
                    obtain ⟨Z, hZ, hZd, hZl⟩ := nm v
                    rw [hZ] at e0
                    obtain ⟨ixs, hixs⟩ : ∃ i, idxL S Z.data.toList = i := ⟨_, rfl⟩
                    obtain ⟨ixh, hixh⟩ : ∃ i, idxL q.head Z.data.toList = i := ⟨_, rfl⟩
                    have hs := idxL_in S Z.data.toList
                    have hh := idxL_in q.head Z.data.toList
                    rw [hixs, hZd] at hs
                    rw [hixh, hZd] at hh
                    have hs0 : ixs < 0 := by
                      apply Classical.byContradiction
                      intro h
                      exact hni (hs.1.1 (by omega))
                    have hh0 : 0 ≤ ixh := hh.1.2 hin
                    have CS : ∀ n, Calls Tryd.prog 24 #[.slice A14 k c14, .string Z] (wr.drewN n) fun e w' => e = .returned (.int .i64 ixs) ∧ w' = wr.drewN n := fun n => by
                      have hkm := HHM.out
                      have := ref_index A14 c14 S Z (wr.drewN n) ((own_nms HO.out hsl).below (below_drewN (Below.refl _ _) n)) (by omega) hixs
                      rw [hsl] at this
                      exact this.mono fun e w' h => ⟨h.1, h.2.symm⟩
                    have CH : ∀ n, Calls Tryd.prog 24 #[.slice A q.head.length ch, .string Z] (wr.drewN n) fun e w' => e = .returned (.int .i64 ixh) ∧ w' = wr.drewN n := fun n => (ref_index A ch q.head Z (wr.drewN n) ((HQ.out.below hbel).head.below (below_drewN (Below.refl _ _) n)) HHM.out hixh).mono fun e w' h => ⟨h.1, h.2.symm⟩
                    have HCS := hid CS
                    have HCH := hid CH
                    have HSN := hid hsn
                    have HZ := hid hZ
                    have hk0 : (0 : Int) ≤ (k : Int) := by omega
                    have hk1 : (k : Int) < (q.head.length : Int) := by omega
                    clear hck hin hni hsn ev hZ hZd hZl hixs hixh hs hh hS hsl CS CH
                    go_upto_region 28 with fail
                    go_quiet (first
                      | (go_at_call 24; with_reducible exact Calls.quiet_of_same (HCS.out _))
                      | (go_at_call 24; with_reducible exact Calls.quiet_of_same (HCH.out _)))
                    have HBD := hid (below_drewN HBR.out nq)
                    have HOD := hid (own_belowS HO.out (below_drewN (Below.refl _ wr) nq))
                    have hszd : wk.heap.size ≤ (wr.drewN nq).heap.size := HBD.out.size
                    clear HO HBR
                    have hk4 : k ≤ 100000 := by have := HHS.out; omega
                    go_wp2_with (at_builtin; refine wpList_append_new2 Tryd.underlying22 hi hz0 hz1 hz2 rfl (by decide) (by decide) rfl rfl rfl HOD.out rfl (by simp) rfl rfl (by omega) (by omega) ?_; intro v3 w3 hown3 hg3; obtain ⟨g3, cap3, rfl⟩ := own_slice1 hown3)
                    have HO3 : Hid (w3.ownsRow wk.heap.size 9 1 (.slice (some ⟨g3, 0, none⟩) (k + 1) cap3) (k + 1) (((LK.take (k + 1)).map (·.v)).map nmV)) := hid (by
                      rw [HSN.out, List.map_append, List.map_singleton, show nmV v = .string Z by rw [← HZ.out]; rfl]
                      exact hown3)
                    have HB3 := hid (HBD.out.trans (grown_below HOD.out hg3 hszd))
                    clear HOD HBD hown3 hg3
                    go_roundw
                    case rel => exact ⟨k + 1, _, _, by omega, by go_num, rfl, HO3, HB3⟩
                    case measure => simp [intOf]; omega
                  · have hke : ((k : Int) == (q.head.length : Int)) = true := by rw [beq_iff_eq]; omega
                    go_wp2_with fail
                    refine (CA _ hbel).out.mono ?_
                    rintro e w6 ⟨rfl, b6⟩
                    have hb6 := hbel.trans (b6.mono hbel.size)
                    clear CA b6
                    go_wp2
                    go_ret
                    exact ⟨rfl, hb6⟩
              · clear CE2
                go_wp2_with fail
                refine CE1.out.mono ?_
                rintro e w14 ⟨rfl, b14⟩
                have HB := hid (HB13.out.trans (b14.mono (by have := HB13.out.size; simp only [World.size_alloc] at this; omega)))
                clear CE1 HB13 HN13 HBP13 b14 q0 q1 q2 q3 q4 ql hbel s0 s1 s2 s3 s4 sl
                obtain ⟨q0, q1, q2, q3, q4, ql, hbel⟩ := qry_cells HB.out
                go_wp2_with fail
                refine (CKK _ (HQ.out.below hbel)).out.mono ?_
                rintro e wk ⟨AK, cK, rfl, hk, bk⟩
                have HK := hid hk
                have HBK := hid (HB.out.trans (bk.mono (by have := HB.out.size; simp only [World.size_alloc] at this; omega)))
                clear CKK bk hk HB hbel q0 q1 q2 q3 q4 ql
                obtain ⟨q0, q1, q2, q3, q4, ql, hbel⟩ := qry_cells HBK.out
                have hszk := HBK.out.size
                rw [World.size_alloc] at hszk
                have HO0 : Hid (wk.ownsRow wk.heap.size 9 1 (.slice none 0 0) 0 (((LK.take 0).map (·.v)).map nmV)) := hid (World.ownsRow_nil _ _ _ _)
                go_wp2
                clear q0 q1 q2 q3 q4 ql hbel
                go_loopw [15, 14] (fun i u14 wr => ∃ (k : Nat) (A14 : Option Addr) (c14 : Nat), k ≤ q.head.length ∧ i = .int .i64 k ∧ u14 = .slice A14 k c14 ∧ Hid (wr.ownsRow wk.heap.size 9 1 (.slice A14 k c14) k (((LK.take k).map (·.v)).map nmV)) ∧ Hid (Below wk.heap.size wk wr)) (fun i _ _ => q.head.length - (intOf i).toNat)
                case atStart => exact ⟨0, none, 0, by omega, rfl, rfl, HO0, hid (Below.refl _ _)⟩
                case round =>
                  clear HO0
                  obtain ⟨k, A14, c14, hk, rfl, rfl, HO, HBR⟩ := hrel
                  obtain ⟨q0, q1, q2, q3, q4, ql, hbel⟩ := qry_cells (HBK.out.trans (HBR.out.mono hszk))
                  have hszr := HBR.out.size
                  by_cases hlt : k < q.head.length
                  · have hlt2 : k < LK.length := by rw [HLN.out.1]; exact hlt
                    obtain ⟨bk, ok, rfl, hck⟩ := HK.out (by omega)
                    have e0 := cell_keep HBR.out (hck k hlt2).1
                    have hin := HLN.out.2.2 _ (List.getElem_mem hlt2)
                    have hni : LK[k].v ∉ (LK.take k).map (·.v) := by
                      intro hm
                      obtain ⟨x, hx, e⟩ := List.mem_map.1 hm
                      obtain ⟨j, hj, rfl⟩ := List.getElem_of_mem hx
                      rw [List.length_take] at hj
                      rw [List.getElem_take] at e
                      have hp := List.nodup_iff_pairwise_ne.1 HLN.out.2.1
                      rw [List.pairwise_map, List.pairwise_iff_getElem] at hp
                      exact hp j k (by omega) hlt2 (by omega) e
                    have hsn : (LK.take (k + 1)).map (·.v) = (LK.take k).map (·.v) ++ [LK[k].v] := by
                      rw [List.take_succ_eq_append_getElem hlt2, List.map_append]; rfl
                    have hsl : ((LK.take k).map (·.v)).length = k := by rw [List.length_map, List.length_take]; omega
                    obtain ⟨v, ev⟩ : ∃ v, LK[k].v = v := ⟨_, rfl⟩
                    rw [ev] at e0 hin hni hsn
                    obtain ⟨S, hS⟩ : ∃ l, (LK.take k).map (·.v) = l := ⟨_, rfl⟩
                    rw [hS] at hni hsn hsl HO
                    obtain ⟨Z, hZ, hZd, hZl⟩ := nm v
                    rw [hZ] at e0
                    obtain ⟨ixs, hixs⟩ : ∃ i, idxL S Z.data.toList = i := ⟨_, rfl⟩
                    obtain ⟨ixh, hixh⟩ : ∃ i, idxL q.head Z.data.toList = i := ⟨_, rfl⟩
                    have hs := idxL_in S Z.data.toList
                    have hh := idxL_in q.head Z.data.toList
                    rw [hixs, hZd] at hs
                    rw [hixh, hZd] at hh
                    have hs0 : ixs < 0 := by
                      apply Classical.byContradiction
                      intro h
                      exact hni (hs.1.1 (by omega))
                    have hh0 : 0 ≤ ixh := hh.1.2 hin
                    have CS : ∀ n, Calls Tryd.prog 24 #[.slice A14 k c14, .string Z] (wr.drewN n) fun e w' => e = .returned (.int .i64 ixs) ∧ w' = wr.drewN n := fun n => by
                      have hkm := HHM.out
                      have := ref_index A14 c14 S Z (wr.drewN n) ((own_nms HO.out hsl).below (below_drewN (Below.refl _ _) n)) (by omega) hixs
                      rw [hsl] at this
                      exact this.mono fun e w' h => ⟨h.1, h.2.symm⟩
                    have CH : ∀ n, Calls Tryd.prog 24 #[.slice A q.head.length ch, .string Z] (wr.drewN n) fun e w' => e = .returned (.int .i64 ixh) ∧ w' = wr.drewN n := fun n => (ref_index A ch q.head Z (wr.drewN n) ((HQ.out.below hbel).head.below (below_drewN (Below.refl _ _) n)) HHM.out hixh).mono fun e w' h => ⟨h.1, h.2.symm⟩
                    have HCS := hid CS
                    have HCH := hid CH
                    have HSN := hid hsn
                    have HZ := hid hZ
                    have hk0 : (0 : Int) ≤ (k : Int) := by omega
                    have hk1 : (k : Int) < (q.head.length : Int) := by omega
                    clear hck hin hni hsn ev hZ hZd hZl hixs hixh hs hh hS hsl CS CH
                    go_upto_region 28 with fail
                    go_quiet (first
                      | (go_at_call 24; with_reducible exact Calls.quiet_of_same (HCS.out _))
                      | (go_at_call 24; with_reducible exact Calls.quiet_of_same (HCH.out _)))
                    have HBD := hid (below_drewN HBR.out nq)
                    have HOD := hid (own_belowS HO.out (below_drewN (Below.refl _ wr) nq))
                    have hszd : wk.heap.size ≤ (wr.drewN nq).heap.size := HBD.out.size
                    clear HO HBR
                    have hk4 : k ≤ 100000 := by have := HHS.out; omega
                    go_wp2_with (at_builtin; refine wpList_append_new2 Tryd.underlying22 hi hz0 hz1 hz2 rfl (by decide) (by decide) rfl rfl rfl HOD.out rfl (by simp) rfl rfl (by omega) (by omega) ?_; intro v3 w3 hown3 hg3; obtain ⟨g3, cap3, rfl⟩ := own_slice1 hown3)
                    have HO3 : Hid (w3.ownsRow wk.heap.size 9 1 (.slice (some ⟨g3, 0, none⟩) (k + 1) cap3) (k + 1) (((LK.take (k + 1)).map (·.v)).map nmV)) := hid (by
                      rw [HSN.out, List.map_append, List.map_singleton, show nmV v = .string Z by rw [← HZ.out]; rfl]
                      exact hown3)
                    have HB3 := hid (HBD.out.trans (grown_below HOD.out hg3 hszd))
                    clear HOD HBD hown3 hg3
                    go_roundw
                    case rel => exact ⟨k + 1, _, _, by omega, by go_num, rfl, HO3, HB3⟩
                    case measure => simp [intOf]; omega
                  · have hke : ((k : Int) == (q.head.length : Int)) = true := by rw [beq_iff_eq]; omega
                    go_wp2_with fail
                    refine (CA _ hbel).out.mono ?_
                    rintro e w6 ⟨rfl, b6⟩
                    have hb6 := hbel.trans (b6.mono hbel.size)
                    clear CA b6
                    go_wp2
                    go_ret
                    exact ⟨rfl, hb6⟩
    · skip
      have by1 : (y != 0) = true := by simpa using hy
      clear CO CR CE q0 q1 q2 q3 q4
      go_wp2_with fail
      refine (CA _ hbel).out.mono ?_
      rintro e w6 ⟨rfl, b6⟩
      have hb6 := hbel.trans (b6.mono hbel.size)
      clear CA b6
      go_wp2
      go_ret
      exact ⟨rfl, hb6⟩
  · skip
    clear CO CR CE CK q0 q1 q2 q3 q4
    go_wp2_with fail
    refine (CA _ hbel).out.mono ?_
    rintro e w6 ⟨rfl, b6⟩
    have hb6 := hbel.trans (b6.mono hbel.size)
    clear CA b6
    go_wp2
    go_ret
    exact ⟨rfl, hb6⟩
end Go.Proofs.YtgeapgbebbapmaaDoor
