/-
  PARTS of a claim, merged by segs.py: Ast11.
-/
import Derived.Test.YtjhnopnppimnhaaGreatDoorZ11
import Derived.WalkMore
import Derived.Deep.LoopGhost
namespace Go.Proofs.YtjhnopnppimnhaaGreatDoor

/-! ### Ast11 -/
section
open Go.RowKit

/-- A query's block keeps its cells. -/
theorem qry_cells {w w' : World} {v0 v1 v2 v3 v4 : Value} {t : TypeId} (h : Below (w.heap.size + 1) (w.alloc (.cells #[v0, v1, v2, v3, v4] t)) w') :
    w'.cell? ⟨w.heap.size, 0, none⟩ = some v0 ∧ w'.cell? ⟨w.heap.size, 1, none⟩ = some v1 ∧ w'.cell? ⟨w.heap.size, 2, none⟩ = some v2 ∧ w'.cell? ⟨w.heap.size, 3, none⟩ = some v3 ∧ w'.cell? ⟨w.heap.size, 4, none⟩ = some v4 ∧ w.heap.size < w'.heap.size ∧ Below w.heap.size w w' := by
  refine ⟨(h.cell (p := ⟨w.heap.size, 0, none⟩) (by simp)).trans (by simp), (h.cell (p := ⟨w.heap.size, 1, none⟩) (by simp)).trans (by simp), (h.cell (p := ⟨w.heap.size, 2, none⟩) (by simp)).trans (by simp), (h.cell (p := ⟨w.heap.size, 3, none⟩) (by simp)).trans (by simp), (h.cell (p := ⟨w.heap.size, 4, none⟩) (by simp)).trans (by simp), ?_, (below_one w _).trans (h.mono (by omega))⟩
  have := h.size
  simp at this
  omega

set_option maxRecDepth 100000 in
set_option maxHeartbeats 4000000 in
theorem ast_checkOrder (q : Qry) (A R O : Option Addr) (ch cr co : Nat) (w : World) (hq : QryIn w q A R O ch cr co) (hwf : q.wf) {x : Int} (hx : orderE q = x) :
    Calls Tryz.prog 92 #[qryV q A R O ch cr co] w fun e w' => e = .returned (.int .i64 x) ∧ Below w.heap.size w w' := by
  have hxx : Hid (orderGo q.head (keysV (q.order.take 0)) (q.order.drop 0) = x) := hid hx
  clear hx
  have HW := hid hwf.order
  obtain ⟨hHd, hRl, hOr, lh, lr, lo, mh, mr, mo⟩ := hq
  obtain ⟨hd, g, av, rs, os⟩ := q
  simp only at *
  have HH := hid hHd
  obtain ⟨Y, hY, _, _⟩ := nm av
  rw [qryV, hY]
  have hmm := @run_makeMap Tryz.prog
  have HB : Hid (Below (w.heap.size + 1) (w.alloc (.cells #[.slice A hd.length ch, .int .i64 g, .string Y, .slice R rs.length cr, .slice O os.length co] 95)) ((w.alloc (.cells #[.slice A hd.length ch, .int .i64 g, .string Y, .slice R rs.length cr, .slice O os.length co] 95)).alloc (.map #[] 0))) := hid ((Below.refl _ _).alloc (by simp) _)
  have HM : Hid (SetAt ((w.alloc (.cells #[.slice A hd.length ch, .int .i64 g, .string Y, .slice R rs.length cr, .slice O os.length co] 95)).alloc (.map #[] 0)) (w.heap.size + 1) 0 (keysV (os.take 0))) := hid (by
    have := SetAt.made (w.alloc (.cells #[.slice A hd.length ch, .int .i64 g, .string Y, .slice R rs.length cr, .slice O os.length co] 95))
    simpa [keysV] using this)
  clear hY hRl hHd hwf
  go_enter Tryz.func92, Tryz.ntmps92
  go_wp2
  go_loopw [10] (fun i wr => ∃ k : Nat, k ≤ os.length ∧ i = .int .i64 k ∧ Hid (SetAt wr (w.heap.size + 1) k (keysV (os.take k))) ∧ Hid (orderGo hd (keysV (os.take k)) (os.drop k) = x) ∧ Hid (Below (w.heap.size + 1) (w.alloc (.cells #[.slice A hd.length ch, .int .i64 g, .string Y, .slice R rs.length cr, .slice O os.length co] 95)) wr)) (fun i _ => os.length - (intOf i).toNat)
  case atStart => exact ⟨0, by omega, rfl, HM, hxx, HB⟩
  case round =>
    obtain ⟨k, hk, rfl, HS, HX, HB1⟩ := hrel
    clear HM hxx HB
    obtain ⟨q0, _, _, _, _, qlt, hbel⟩ := qry_cells HB1.out
    have hsz := hbel.size
    by_cases hlt : k < os.length
    · obtain ⟨bb, o, rfl, hc⟩ := hOr (by omega)
      obtain ⟨d0, d1⟩ := hc k hlt
      replace d0 := cell_keep hbel d0
      replace d1 := cell_keep hbel d1
      have hon := fun h1 h2 => orderGo_on (hd := hd) hlt h1 h2
      have hnm := fun h1 => orderGo_name (hd := hd) hlt h1
      have htw := fun h1 h2 => orderGo_twice (hd := hd) hlt h1 h2
      have hsu := keysV_succ hlt
      have hvl := HW.out os[k] (List.getElem_mem hlt)
      generalize os[k] = ky at *
      obtain ⟨v, ds⟩ := ky
      simp only at *
      obtain ⟨Z, hZ, hZd, hZl⟩ := nm v
      clear hZl
      rw [hZ] at d0
      have hZs := maxLen_of hZd hvl
      have hbN := hbel.alloc hsz (.cells #[.string Z, .bool ds] 147)
      have HBN := hid (HB1.out.alloc (by omega) (.cells #[.string Z, .bool ds] 147))
      have HSN := hid (HS.out.alloc (.cells #[.string Z, .bool ds] 147))
      have hHN := hid (HH.out.below hbN)
      have Hon := hid hon
      have Hnm := hid hnm
      have Htw := hid htw
      have Hsu := hid hsu
      have HZ := hid hZd
      clear hc hZ hZd hon hnm htw hsu HB1 HS hbel
      have H1 := fun W h b (hb : decide (v ∈ hd.take hd.length) = b) => hid (sl_contains A hd.length ch hd Z W h (Nat.le_refl _) mh (b := b) (by rw [HZ.out]; exact hb))
      rw [List.take_length] at H1
      by_cases hin : v ∈ hd
      · have H2 := fun W h => hid (H1 W h true (decide_eq_true hin)).out
        clear H1
        by_cases htwc : v ∈ keysV (os.take k)
        · have hx : 8 = x := (Htw.out hin htwc).symm.trans HX.out
          subst hx
          have hv : EB.R ((setF (keysV (os.take k)) Z.data.toList).getD false) = .bool true := by rw [HZ.out, setF_get, decide_eq_true htwc]; rfl
          have HV := hid hv
          clear Hon Hnm Htw HX hv htwc hin Hsu
          go_wp2_with fail
          refine (H2 _ hHN.out).out.mono ?_
          rintro e w1 ⟨rfl, rfl⟩
          clear H2
          go_wp2_with (at_lookup; refine wpList_look rfl _ _ rfl HSN.out EB_ok Tryz.underlying9 Tryz.underlying177 rfl Z rfl hZs (.bool true) HV.out ?_)
          go_ret
          exact ⟨rfl, hbN⟩
        · have HN := hid ((Hon.out hin htwc).symm.trans HX.out)
          have hv : EB.R ((setF (keysV (os.take k)) Z.data.toList).getD false) = .bool false := by rw [HZ.out, setF_get, decide_eq_false htwc]; rfl
          have HV := hid hv
          clear Hon Hnm Htw HX hv htwc hin
          go_wp2_with fail
          refine (H2 _ hHN.out).out.mono ?_
          rintro e w1 ⟨rfl, rfl⟩
          clear H2
          go_wp2_with (first
            | (at_lookup; refine wpList_look rfl _ _ rfl HSN.out EB_ok Tryz.underlying9 Tryz.underlying177 rfl Z rfl hZs (.bool false) HV.out ?_)
            | (at_mapUpdate; refine wpList_put rfl _ _ _ rfl HSN.out Tryz.underlying9 Tryz.underlying177 (by unfold maxLen; omega) rfl Z rfl hZs true rfl EB_true ?_; intro w2 hmap2 hg2))
          rw [HZ.out, setF_put, ← Hsu.out] at hmap2
          have hb2 := HBN.out.grown hg2 (by simp; omega) (fun j hj => by injection hj; omega)
          go_roundw
          case rel => exact ⟨k + 1, by omega, by go_num, hid hmap2, HN, hid hb2⟩
          case measure => simp [intOf]; omega
      · have hx : 7 = x := (Hnm.out hin).symm.trans HX.out
        subst hx
        have H2 := fun W h => hid (H1 W h false (decide_eq_false hin)).out
        clear Hon Hnm Htw HX H1 hin Hsu
        go_wp2_with fail
        refine (H2 _ hHN.out).out.mono ?_
        rintro e w1 ⟨rfl, rfl⟩
        clear H2
        go_wp2
        go_ret
        exact ⟨rfl, hbN⟩
    · have hx : 0 = x := (orderGo_end hlt).symm.trans HX.out
      subst hx
      clear HX HS
      go_wp2
      go_ret
      exact ⟨rfl, hbel⟩

theorem sl_clone2 (A : Option Addr) (c : Nat) (l : List Str) (w : World) (hl : NmsAt w A l) (hm : l.length ≤ 100000) :
    Calls Tryz.prog 124 #[.slice A l.length c] w fun e w' => ∃ A' c', e = .returned (.slice A' l.length c') ∧ w'.ownsRow w.heap.size 9 1 (.slice A' l.length c') l.length (l.map nmV) ∧ Below w.heap.size w w' := by
  refine (sl_clone A c l w hl hm).mono ?_
  rintro e w' ⟨u, rfl, ho, hb⟩
  obtain ⟨A', c', hu, _⟩ := own_names ho
  subst hu
  exact ⟨A', c', rfl, ho, hb⟩
theorem ast_vars2 (r : Rul) (T T' : Option Addr) (c c' : Nat) (w : World) (ha : AtmsAt w T r.atoms) (hcn : CndsAt w T' r.conds) (hf : r.few) (hwf : r.wf) {x : List Str} (hx : varsL r = x) :
    Calls Tryz.prog 126 #[.agg #[.slice T r.atoms.length c, .slice T' r.conds.length c']] w fun e w' => ∃ A cap B, e = .returned (.slice A x.length cap) ∧ w.heap.size ≤ B ∧ w'.ownsRow B 9 1 (.slice A x.length cap) x.length (x.map nmV) ∧ Below w.heap.size w w' := by
  refine (ast_vars r T T' c c' w ha hcn hf hwf hx).mono ?_
  rintro e w' ⟨u, B, rfl, hB, ho, hb⟩
  obtain ⟨A', cap, hu, _⟩ := own_names ho
  subst hu
  exact ⟨A', cap, B, rfl, hB, ho, hb⟩
theorem sl_concat2 (u1 u2 : Value) (B1 B2 g : Nat) (l1 l2 : List Str) (w : World) (h1 : w.ownsRow B1 9 1 u1 l1.length (l1.map nmV)) (h2 : w.ownsRow B2 9 1 u2 l2.length (l2.map nmV)) (hm1 : l1.length ≤ 1000) (hm2 : l2.length ≤ 1000)
    (e0 : w.cell? ⟨g, 0, none⟩ = some u1) (e1 : w.cell? ⟨g, 1, none⟩ = some u2) :
    Calls Tryz.prog 128 #[.slice (some ⟨g, 0, none⟩) 2 2] w fun e w' => ∃ A c, e = .returned (.slice A (l1 ++ l2).length c) ∧ NmsAt w' A (l1 ++ l2) ∧ Below w.heap.size w w' := by
  refine (sl_concat u1 u2 B1 B2 g l1 l2 w h1 h2 hm1 hm2 e0 e1).mono ?_
  rintro e w' ⟨u, rfl, ho, hb⟩
  rw [← List.length_append] at ho
  obtain ⟨A', c', hu, hA, _⟩ := own_names ho
  exact ⟨A', c', by rw [hu], hA, hb⟩
theorem vars_len {r : Rul} (h : r.wf) (v : Str) (hv : v ∈ varsL r) : v.length ≤ 9223372036854775807 := by
  have h1 := (vars_in.1 hv).1
  unfold allVs at h1
  rcases List.mem_append.1 h1 with h2 | h2
  · obtain ⟨a, ha, h3⟩ := List.mem_flatMap.1 h2
    obtain ⟨t, ht, rfl⟩ := List.mem_map.1 h3
    exact ((h.atoms a ha).ts t ht).v
  · obtain ⟨c, hc, rfl⟩ := List.mem_map.1 h2
    exact (h.conds c hc).v
theorem all_take_succ {α : Type} (p : α → Bool) (l : List α) (k : Nat) (h : k < l.length) : (l.take (k + 1)).all p = ((l.take k).all p && p l[k]) := by
  rw [List.take_succ_eq_append_getElem h, List.all_append]; simp
theorem all_bad {α : Type} (p : α → Bool) (l : List α) (k : Nat) (h : k < l.length) (hp : p l[k] = false) : l.all p = false := by
  rw [List.all_eq_false]; exact ⟨_, List.getElem_mem h, by simp [hp]⟩
theorem rule_items {q : Qry} {r : Rul} (h : itemsE r ≠ 0) : ruleE q r = itemsE r := by unfold ruleE; rw [if_neg h]
theorem rule_many {q : Qry} {r : Rul} (h : itemsE r = 0) (h2 : 8 < (varsL r).length) : ruleE q r = 12 := by unfold ruleE; rw [if_pos h, if_pos h2]
theorem rule_bound {q : Qry} {r : Rul} (h : itemsE r = 0) (h2 : ¬ 8 < (varsL r).length) (h3 : (needL q ++ varsL r).all (boundB r) = true) : ruleE q r = 0 := by unfold ruleE; rw [if_pos h, if_neg h2, if_pos h3]
theorem rule_unsafe {q : Qry} {r : Rul} (h : itemsE r = 0) (h2 : ¬ 8 < (varsL r).length) (h3 : (needL q ++ varsL r).all (boundB r) = false) : ruleE q r = 22 := by unfold ruleE; rw [if_pos h, if_neg h2, if_neg (by rw [h3]; decide)]

set_option maxRecDepth 100000 in
set_option maxHeartbeats 8000000 in
theorem ast_checkRules (q : Qry) (A R O : Option Addr) (ch cr co : Nat) (w : World) (hq : QryIn w q A R O ch cr co) (hwf : q.wf) (h6 : q.head.length ≤ 6) (hne : ∀ v ∈ needL q, v ≠ []) {x : Int} (hx : firstE (ruleE q) q.rules = x) :
    Calls Tryz.prog 91 #[qryV q A R O ch cr co] w fun e w' => e = .returned (.int .i64 x) ∧ Below w.heap.size w w' := by
  have HX : Hid (firstE (ruleE q) (q.rules.drop 0) = x) := hid hx
  have hnl : ∀ v ∈ needL q, v.length ≤ 9223372036854775807 := fun v hv => by
    unfold needL at hv
    rcases List.mem_append.1 hv with h | h
    · exact hwf.head v h
    · split at h
      · cases h
      · rw [List.mem_singleton.1 h]; exact hwf.aggVar
  obtain ⟨N, hN⟩ : ∃ N, needL q = N := ⟨_, rfl⟩
  obtain ⟨F, hF⟩ : ∃ F, ruleE q = F := ⟨_, rfl⟩
  have rI := fun r h => rule_items (q := q) (r := r) h
  have rM := fun r h h2 => rule_many (q := q) (r := r) h h2
  have rB := fun r h h2 h3 => rule_bound (q := q) (r := r) h h2 h3
  have rU := fun r h h2 h3 => rule_unsafe (q := q) (r := r) h h2 h3
  rw [hF] at HX rI rM rB rU
  rw [hN] at rB rU hne hnl
  have RI := hid rI
  have RM := hid rM
  have RB := hid rB
  have RU := hid rU
  have HNE := hid hne
  have HNL := hid hnl
  clear hx rI rM rB rU hF hne hnl
  have HR := hid hwf.rules
  have HA := hid hwf.aggVar
  obtain ⟨hHd, hRl, hOr, lh, lr, lo, mh, mr, mo⟩ := hq
  obtain ⟨hd, g, av, rs, os⟩ := q
  simp only [needL] at *
  have H1 := fun W h => hid (sl_clone2 A ch hd W h (by omega))
  have HH := hid hHd
  obtain ⟨Y, hY, hYd, hYl⟩ := nm av
  have hno := noS hYl
  rw [qryV, hY]
  have hNl : N.length ≤ 7 := by rw [← hN]; split <;> simp <;> omega
  have HBq : Hid (Below (w.heap.size + 1) (w.alloc (.cells #[.slice A hd.length ch, .int .i64 g, .string Y, .slice R rs.length cr, .slice O os.length co] 95)) (w.alloc (.cells #[.slice A hd.length ch, .int .i64 g, .string Y, .slice R rs.length cr, .slice O os.length co] 95))) := hid (Below.refl _ _)
  have HNN := hid hN
  have HYd := hid hYd
  clear hHd hwf hN hYd hYl hY hOr
  obtain ⟨i0, hi, hz0, hz1, hz2⟩ := info_parts infoStr
  go_enter Tryz.func91, Tryz.ntmps91
  go_wp2
  go_step3
  go_wp2_with fail
  refine (H1 _ (HH.out.below (below_one _ _))).out.mono ?_
  rintro e w1 ⟨An, cN, rfl, hown, b1⟩
  have HB2 := hid (HBq.out.trans (b1.mono (by simp)))
  obtain ⟨q0, q1, q2, q3, q4, qlt, hbel⟩ := qry_cells HB2.out
  have HO : Hid (w1.ownsRow (w.heap.size + 1) 9 1 (.slice An hd.length cN) hd.length (hd.map nmV)) := hid (by simpa using hown)
  clear H1 hown b1 HBq
  by_cases hv : av = []
  · have hz : Y.toList.isEmpty = true := by rw [hno]; simpa using hv
    have HO2 : Hid (w1.ownsRow (w.heap.size + 1) 9 1 (.slice An hd.length cN) N.length (N.map nmV)) := hid (by
      have h1 := HNN.out
      rw [if_pos hv, List.append_nil] at h1
      rw [← h1]
      simpa using HO.out)
    clear hno hv HO HNN
    go_wp2
    go_step3
    go_wp2
    go_loopw [4, 25] (fun e4 i wr => ∃ k : Nat, k ≤ rs.length ∧ e4 = .int .i64 0 ∧ i = .int .i64 k ∧ Hid (firstE F (rs.drop k) = x) ∧ Hid (Below (w.heap.size + 1) (w.alloc (.cells #[.slice A hd.length ch, .int .i64 g, .string Y, .slice R rs.length cr, .slice O os.length co] 95)) wr) ∧ Hid (wr.ownsRow (w.heap.size + 1) 9 1 (.slice An hd.length cN) N.length (N.map nmV))) (fun _ i _ => rs.length - (intOf i).toNat)
    case atStart => exact ⟨0, by omega, rfl, rfl, HX, HB2, HO2⟩
    case round =>
      obtain ⟨k, hk, rfl, rfl, HX1, HBk, HOk⟩ := hrel
      clear HX HB2 HO2 hbel qlt q0 q1 q2 q3 q4
      obtain ⟨q0, _, _, _, _, qlt, hbel⟩ := qry_cells HBk.out
      have hsz := hbel.size
      by_cases hlt : k < rs.length
      · obtain ⟨bb, o, rfl, hc⟩ := hRl (by omega)
        obtain ⟨T, ct, T', ct', d0, d1, ha, hcn, _, _, hm1, hm2⟩ := hc k hlt
        replace d0 := cell_keep hbel d0
        replace d1 := cell_keep hbel d1
        replace ha := ha.below hbel
        replace hcn := hcn.below hbel
        have hon := fun h => firstE_on (f := F) hlt h
        have hat := fun h => firstE_at (f := F) hlt h
        have hwr := HR.out rs[k] (List.getElem_mem hlt)
        obtain ⟨r, er⟩ : ∃ r, rs[k] = r := ⟨_, rfl⟩
        rw [er] at d0 d1 ha hcn hm1 hm2 hon hat hwr
        have ri := RI.out r
        have rm := RM.out r
        have rb := RB.out r
        have ru := RU.out r
        have HWr := hid hwr
        obtain ⟨y, hy⟩ : ∃ y, itemsE r = y := ⟨_, rfl⟩
        rw [hy] at ri rm rb ru
        have hfew := fun h0 : y = 0 => few_of_items (hy.trans h0)
        have HFw := hid hfew
        obtain ⟨V, hV⟩ : ∃ V, varsL r = V := ⟨_, rfl⟩
        rw [hV] at rm rb ru
        obtain ⟨BO, hBO⟩ : ∃ BO, boundB r = BO := ⟨_, rfl⟩
        rw [hBO] at rb ru
        have hpb := fun v hv => posIn_bound r v hv
        rw [hBO] at hpb
        have HPB := hid hpb
        have hvne : ∀ v ∈ V, v ≠ [] := fun v hv => by rw [← hV] at hv; exact (vars_in.1 hv).2
        have HVN := hid hvne
        have hvl : ∀ v ∈ V, v.length ≤ 9223372036854775807 := fun v hv => by rw [← hV] at hv; exact vars_len hwr v hv
        have HVL := hid hvl
        have C1 := fun W h1 h2 => hid (ast_checkItems r T T' ct ct' W h1 h2 hm1 hm2 hy)
        have C2 := fun W h1 h2 h0 => hid (ast_vars2 r T T' ct ct' W h1 h2 (HFw.out h0) HWr.out hV)
        have C3 := fun W h1 h0 => hid (ast_positive r T T' ct ct' W h1 (HFw.out h0) HWr.out)
        have RIk := hid ri
        have RMk := hid rm
        have RBk := hid rb
        have RUk := hid ru
        have Hon := hid hon
        have Hat := hid hat
        have HA1 := hid (ha.below (below_one wr (.cells #[.slice T r.atoms.length ct, .slice T' r.conds.length ct'] 142)))
        have HC1 := hid (hcn.below (below_one wr (.cells #[.slice T r.atoms.length ct, .slice T' r.conds.length ct'] 142)))
        have HBn := hid (HBk.out.alloc (by omega) (.cells #[.slice T r.atoms.length ct, .slice T' r.conds.length ct'] 142))
        have HOn := hid (own_belowS HOk.out (below_one wr (.cells #[.slice T r.atoms.length ct, .slice T' r.conds.length ct'] 142)))
        obtain ⟨wo, rfl⟩ : ∃ wo : World, wo = wr := ⟨_, rfl⟩
        clear hc er ri rm rb ru hwr hfew hy hV hBO hpb hvne hvl hon hat ha hcn HBk HOk
        go_wp2_with fail
        refine (C1 _ HA1.out HC1.out).out.mono ?_
        rintro e w2 ⟨rfl, b2⟩
        have g0 := cell_keep b2 (v := .slice T r.atoms.length ct) (b := wo.heap.size) (o := 0) (by simp)
        have g1 := cell_keep b2 (v := .slice T' r.conds.length ct') (b := wo.heap.size) (o := 1) (by simp)
        have hs2 : wo.heap.size < w2.heap.size := by have := b2.size; simp at this; omega
        have HB2 := hid (HBn.out.trans (b2.mono (by simp; omega)))
        have HO2 := hid (own_belowS HOn.out b2)
        have HA2 := hid (HA1.out.below b2)
        have HC2 := hid (HC1.out.below b2)
        clear C1 HA1 HC1 HBn HOn b2
        by_cases hy0 : y = 0
        · have by0 : (y != 0) = false := by simpa using hy0
          subst hy0
          go_wp2_with fail
          refine (C2 _ HA2.out HC2.out (by trivial)).out.mono ?_
          rintro e w3 ⟨Av, cv, Bv, rfl, hBv, hov, b3⟩
          replace g0 := cell_keep b3 g0
          replace g1 := cell_keep b3 g1
          have hs3 : wo.heap.size < w3.heap.size := Nat.lt_of_lt_of_le hs2 b3.size
          have HB3 := hid (HB2.out.trans (b3.mono (by omega)))
          have HO3 := hid (own_belowS HO2.out b3)
          have HA3 := hid (HA2.out.below b3)
          have HV3 := hid hov
          clear C2 HA2 HC2 HB2 HO2 b3 hov
          by_cases h8 : 8 < V.length
          · have hx : 12 = x := by
              have h1 := RMk.out (by trivial) h8
              exact h1.symm.trans ((Hat.out (by rw [h1]; decide)).symm.trans HX1.out)
            subst hx
            obtain ⟨_, _, _, _, _, _, hbe⟩ := qry_cells HB3.out
            clear C3 RIk RMk RBk RUk Hon Hat HX1
            go_wp2
            try rw [Exit.noGoto_ret]
            go_ret
            exact ⟨rfl, hbe⟩
          · go_wp2_with fail
            refine (C3 _ HA3.out (by trivial)).out.mono ?_
            rintro e w4 ⟨bm, n, S, rfl, hbm, hset, hS, b4⟩
            have HB4 := hid (HB3.out.trans (b4.mono (by omega)))
            have HO4 := hid (own_belowS HO3.out b4)
            have HV4 := hid (own_belowS HV3.out b4)
            have hs4 : w.heap.size + 1 ≤ w4.heap.size := by have := b4.size; omega
            have hblk := below_one w4 (.cells #[(.slice An hd.length cN), .slice Av V.length cv] 27)
            have C4 := fun W (h1 : W.ownsRow (w.heap.size + 1) 9 1 (.slice An hd.length cN) N.length (N.map nmV)) (h2 : W.ownsRow Bv 9 1 (.slice Av V.length cv) V.length (V.map nmV)) h3 h4 => hid (sl_concat2 (.slice An hd.length cN) (.slice Av V.length cv) (w.heap.size + 1) Bv w4.heap.size N V W h1 h2 (by omega) (by omega) h3 h4)
            have K1 := hid (own_belowS HO4.out hblk)
            have K2 := hid (own_belowS HV4.out hblk)
            have HBm := hid (HB4.out.trans (hblk.mono hs4))
            have HSm := hid (MapAt.below hset hblk)
            have HSS := hid hS
            clear C3 HA3 HB3 HO3 HV3 b4 hset hS hblk HV4 g0 g1
            go_wp2_with fail
            refine (C4 _ K1.out K2.out (by simp) (by simp)).out.mono ?_
            rintro e w5 ⟨A5, c5, rfl, hA5, b5⟩
            have HB5 := hid (HBm.out.trans (b5.mono (by simp; omega)))
            have HS5 := hid (MapAt.below HSm.out b5)
            have HO5 := hid (own_belowS K1.out b5)
            have HN5 := hid hA5
            obtain ⟨_, _, _, _, _, _, hbe⟩ := qry_cells HB5.out
            have hSz := HSm.out.lt
            clear C4 K1 K2 HBm HSm b5 hA5 HO4 HB4
            have HAL := hid (rfl : (N ++ V).length = (N ++ V).length)
            have hVl : (N ++ V).length = N.length + V.length := List.length_append
            obtain ⟨Z, hZ⟩ : ∃ Z, N ++ V = Z := ⟨_, rfl⟩
            have HZ := hid hZ
            rw [hZ] at HN5 RBk RUk hVl
            rw [hZ]
            have HZN : Hid (∀ v ∈ Z, v ≠ [] ∧ v.length ≤ 9223372036854775807) := hid (fun v hv => by
              rw [← HZ.out] at hv
              rcases List.mem_append.1 hv with h | h
              · exact ⟨HNE.out v h, HNL.out v h⟩
              · exact ⟨HVN.out v h, HVL.out v h⟩)
            go_wp2
            go_loop [4, 45] (fun e4 i => ∃ j : Nat, j ≤ Z.length ∧ e4 = .int .i64 0 ∧ i = .int .i64 j ∧ Hid ((Z.take j).all BO = true)) (fun _ i => Z.length - (intOf i).toNat)
            case atStart => exact ⟨0, by omega, rfl, rfl, hid rfl⟩
            case round =>
              obtain ⟨j, hj, rfl, rfl, HJ⟩ := hrel
              by_cases hjt : j < Z.length
              · obtain ⟨bz, oz, rfl, hcz⟩ := HN5.out (by omega)
                have c0 := hcz j hjt
                obtain ⟨hzn, hzl⟩ := HZN.out Z[j] (List.getElem_mem hjt)
                have hal := all_take_succ BO Z j hjt
                have hab := all_bad BO Z j hjt
                rw [HJ.out] at hal
                obtain ⟨v, hv⟩ : ∃ v, Z[j] = v := ⟨_, rfl⟩
                rw [hv] at c0 hzn hzl hal hab
                obtain ⟨X, hX, hXd, _⟩ := nm v
                rw [hX] at c0
                have hXs := maxLen_of hXd hzl
                have hin : v ∈ S ↔ BO v = true := (HSS.out v).trans (HPB.out v hzn)
                have hlk : EB.R ((setF S X.data.toList).getD false) = .bool (decide (v ∈ S)) := by rw [hXd, setF_get]; rfl
                clear hcz hX hXd hv hzn hzl HJ
                cases hb : BO v
                · have hns : decide (v ∈ S) = false := decide_eq_false (by rw [hin, hb]; decide)
                  rw [hns] at hlk
                  have h22 := RUk.out (by trivial) h8 (hab hb)
                  have hx : 22 = x := h22.symm.trans ((Hat.out (by rw [h22]; decide)).symm.trans HX1.out)
                  subst hx
                  have HLK := hid hlk
                  clear hns hlk h22 hal hab hin hb RIk RMk RBk RUk Hon Hat HX1
                  go_wp2_with (at_lookup; refine wpList_look rfl _ _ rfl HS5.out EB_ok Tryz.underlying9 Tryz.underlying177 rfl X rfl hXs (.bool false) HLK.out ?_)
                  try rw [Exit.noGoto_ret]
                  go_ret
                  exact ⟨rfl, hbe⟩
                · have hns : decide (v ∈ S) = true := decide_eq_true (hin.2 hb)
                  rw [hns] at hlk
                  have HJ2 : Hid ((Z.take (j + 1)).all BO = true) := hid (by rw [hal, hb]; rfl)
                  have HLK := hid hlk
                  clear hns hlk hal hab hin hb
                  go_wp2_with (at_lookup; refine wpList_look rfl _ _ rfl HS5.out EB_ok Tryz.underlying9 Tryz.underlying177 rfl X rfl hXs (.bool true) HLK.out ?_)
                  go_round
                  case rel => exact ⟨j + 1, by omega, rfl, by go_num, HJ2⟩
                  case measure => simp [intOf]; omega
              · have hall : Z.all BO = true := by
                  have h1 := HJ.out
                  rw [List.take_of_length_le (by omega)] at h1
                  exact h1
                have h0 := RBk.out (by trivial) h8 hall
                have HX2 := hid ((Hon.out h0).symm.trans HX1.out)
                clear hall h0 HJ RIk RMk RBk RUk Hon Hat HX1
                go_wp2
                go_roundw
                case rel => exact ⟨k + 1, by omega, rfl, by go_num, HX2, HB5, HO5⟩
                case measure => simp [intOf]; omega
        · have by0 : (y != 0) = true := by simpa using hy0
          have hx : y = x := by
            have h1 := RIk.out hy0
            exact h1.symm.trans ((Hat.out (by rw [h1]; exact hy0)).symm.trans HX1.out)
          subst hx
          obtain ⟨_, _, _, _, _, _, hbe⟩ := qry_cells HB2.out
          clear C2 C3 RIk RMk RBk RUk Hon Hat HX1 hy0
          go_wp2
          try rw [Exit.noGoto_ret]
          go_ret
          exact ⟨rfl, hbe⟩
      · have hx : 0 = x := (firstE_end hlt).symm.trans HX1.out
        subst hx
        clear HX1
        go_wp2
        try rw [Exit.noGoto_ret]
        go_ret
        exact ⟨rfl, hbel⟩
  · have hz : Y.toList.isEmpty = false := by rw [hno]; simpa using hv
    have hYv : nmV av = .string Y := by rw [← HYd.out]; rfl
    have HYv := hid hYv
    have HV := hid hv
    clear hno hv hYv
    go_wp2_with (at_builtin; refine wpList_append_new2 Tryz.underlying27 hi hz0 hz1 hz2 rfl (by decide) (by decide) rfl rfl rfl HO.out rfl (by simp) rfl rfl (by omega) (by omega) ?_; intro v3 w3 hown3 hg3; obtain ⟨g3, cap3, rfl⟩ := own_slice1 hown3)
    have HO2 : Hid (w3.ownsRow (w.heap.size + 1) 9 1 (.slice (some ⟨g3, 0, none⟩) (hd.length + 1) cap3) N.length (N.map nmV)) := hid (by
      have h1 := HNN.out
      rw [if_neg HV.out] at h1
      rw [← h1, List.length_append, List.map_append, List.map_singleton, HYv.out]
      simpa using hown3)
    have HB3 := hid (HB2.out.trans (grown_below HO.out hg3 (by omega)))
    clear HB2 HO HNN hown3 hg3 HV HYv
    have HB2 := HB3
    clear HB3 q0 q1 q2 q3 q4 qlt hbel
    obtain ⟨q0, q1, q2, q3, q4, qlt, hbel⟩ := qry_cells HB2.out
    go_step3
    go_wp2
    go_loopw [4, 25] (fun e4 i wr => ∃ k : Nat, k ≤ rs.length ∧ e4 = .int .i64 0 ∧ i = .int .i64 k ∧ Hid (firstE F (rs.drop k) = x) ∧ Hid (Below (w.heap.size + 1) (w.alloc (.cells #[.slice A hd.length ch, .int .i64 g, .string Y, .slice R rs.length cr, .slice O os.length co] 95)) wr) ∧ Hid (wr.ownsRow (w.heap.size + 1) 9 1 (.slice (some ⟨g3, 0, none⟩) (hd.length + 1) cap3) N.length (N.map nmV))) (fun _ i _ => rs.length - (intOf i).toNat)
    case atStart => exact ⟨0, by omega, rfl, rfl, HX, HB2, HO2⟩
    case round =>
      obtain ⟨k, hk, rfl, rfl, HX1, HBk, HOk⟩ := hrel
      clear HX HB2 HO2 hbel qlt q0 q1 q2 q3 q4
      obtain ⟨q0, _, _, _, _, qlt, hbel⟩ := qry_cells HBk.out
      have hsz := hbel.size
      by_cases hlt : k < rs.length
      · obtain ⟨bb, o, rfl, hc⟩ := hRl (by omega)
        obtain ⟨T, ct, T', ct', d0, d1, ha, hcn, _, _, hm1, hm2⟩ := hc k hlt
        replace d0 := cell_keep hbel d0
        replace d1 := cell_keep hbel d1
        replace ha := ha.below hbel
        replace hcn := hcn.below hbel
        have hon := fun h => firstE_on (f := F) hlt h
        have hat := fun h => firstE_at (f := F) hlt h
        have hwr := HR.out rs[k] (List.getElem_mem hlt)
        obtain ⟨r, er⟩ : ∃ r, rs[k] = r := ⟨_, rfl⟩
        rw [er] at d0 d1 ha hcn hm1 hm2 hon hat hwr
        have ri := RI.out r
        have rm := RM.out r
        have rb := RB.out r
        have ru := RU.out r
        have HWr := hid hwr
        obtain ⟨y, hy⟩ : ∃ y, itemsE r = y := ⟨_, rfl⟩
        rw [hy] at ri rm rb ru
        have hfew := fun h0 : y = 0 => few_of_items (hy.trans h0)
        have HFw := hid hfew
        obtain ⟨V, hV⟩ : ∃ V, varsL r = V := ⟨_, rfl⟩
        rw [hV] at rm rb ru
        obtain ⟨BO, hBO⟩ : ∃ BO, boundB r = BO := ⟨_, rfl⟩
        rw [hBO] at rb ru
        have hpb := fun v hv => posIn_bound r v hv
        rw [hBO] at hpb
        have HPB := hid hpb
        have hvne : ∀ v ∈ V, v ≠ [] := fun v hv => by rw [← hV] at hv; exact (vars_in.1 hv).2
        have HVN := hid hvne
        have hvl : ∀ v ∈ V, v.length ≤ 9223372036854775807 := fun v hv => by rw [← hV] at hv; exact vars_len hwr v hv
        have HVL := hid hvl
        have C1 := fun W h1 h2 => hid (ast_checkItems r T T' ct ct' W h1 h2 hm1 hm2 hy)
        have C2 := fun W h1 h2 h0 => hid (ast_vars2 r T T' ct ct' W h1 h2 (HFw.out h0) HWr.out hV)
        have C3 := fun W h1 h0 => hid (ast_positive r T T' ct ct' W h1 (HFw.out h0) HWr.out)
        have RIk := hid ri
        have RMk := hid rm
        have RBk := hid rb
        have RUk := hid ru
        have Hon := hid hon
        have Hat := hid hat
        have HA1 := hid (ha.below (below_one wr (.cells #[.slice T r.atoms.length ct, .slice T' r.conds.length ct'] 142)))
        have HC1 := hid (hcn.below (below_one wr (.cells #[.slice T r.atoms.length ct, .slice T' r.conds.length ct'] 142)))
        have HBn := hid (HBk.out.alloc (by omega) (.cells #[.slice T r.atoms.length ct, .slice T' r.conds.length ct'] 142))
        have HOn := hid (own_belowS HOk.out (below_one wr (.cells #[.slice T r.atoms.length ct, .slice T' r.conds.length ct'] 142)))
        obtain ⟨wo, rfl⟩ : ∃ wo : World, wo = wr := ⟨_, rfl⟩
        clear hc er ri rm rb ru hwr hfew hy hV hBO hpb hvne hvl hon hat ha hcn HBk HOk
        go_wp2_with fail
        refine (C1 _ HA1.out HC1.out).out.mono ?_
        rintro e w2 ⟨rfl, b2⟩
        have g0 := cell_keep b2 (v := .slice T r.atoms.length ct) (b := wo.heap.size) (o := 0) (by simp)
        have g1 := cell_keep b2 (v := .slice T' r.conds.length ct') (b := wo.heap.size) (o := 1) (by simp)
        have hs2 : wo.heap.size < w2.heap.size := by have := b2.size; simp at this; omega
        have HB2 := hid (HBn.out.trans (b2.mono (by simp; omega)))
        have HO2 := hid (own_belowS HOn.out b2)
        have HA2 := hid (HA1.out.below b2)
        have HC2 := hid (HC1.out.below b2)
        clear C1 HA1 HC1 HBn HOn b2
        by_cases hy0 : y = 0
        · have by0 : (y != 0) = false := by simpa using hy0
          subst hy0
          go_wp2_with fail
          refine (C2 _ HA2.out HC2.out (by trivial)).out.mono ?_
          rintro e w3 ⟨Av, cv, Bv, rfl, hBv, hov, b3⟩
          replace g0 := cell_keep b3 g0
          replace g1 := cell_keep b3 g1
          have hs3 : wo.heap.size < w3.heap.size := Nat.lt_of_lt_of_le hs2 b3.size
          have HB3 := hid (HB2.out.trans (b3.mono (by omega)))
          have HO3 := hid (own_belowS HO2.out b3)
          have HA3 := hid (HA2.out.below b3)
          have HV3 := hid hov
          clear C2 HA2 HC2 HB2 HO2 b3 hov
          by_cases h8 : 8 < V.length
          · have hx : 12 = x := by
              have h1 := RMk.out (by trivial) h8
              exact h1.symm.trans ((Hat.out (by rw [h1]; decide)).symm.trans HX1.out)
            subst hx
            obtain ⟨_, _, _, _, _, _, hbe⟩ := qry_cells HB3.out
            clear C3 RIk RMk RBk RUk Hon Hat HX1
            go_wp2
            try rw [Exit.noGoto_ret]
            go_ret
            exact ⟨rfl, hbe⟩
          · go_wp2_with fail
            refine (C3 _ HA3.out (by trivial)).out.mono ?_
            rintro e w4 ⟨bm, n, S, rfl, hbm, hset, hS, b4⟩
            have HB4 := hid (HB3.out.trans (b4.mono (by omega)))
            have HO4 := hid (own_belowS HO3.out b4)
            have HV4 := hid (own_belowS HV3.out b4)
            have hs4 : w.heap.size + 1 ≤ w4.heap.size := by have := b4.size; omega
            have hblk := below_one w4 (.cells #[(.slice (some ⟨g3, 0, none⟩) (hd.length + 1) cap3), .slice Av V.length cv] 27)
            have C4 := fun W (h1 : W.ownsRow (w.heap.size + 1) 9 1 (.slice (some ⟨g3, 0, none⟩) (hd.length + 1) cap3) N.length (N.map nmV)) (h2 : W.ownsRow Bv 9 1 (.slice Av V.length cv) V.length (V.map nmV)) h3 h4 => hid (sl_concat2 (.slice (some ⟨g3, 0, none⟩) (hd.length + 1) cap3) (.slice Av V.length cv) (w.heap.size + 1) Bv w4.heap.size N V W h1 h2 (by omega) (by omega) h3 h4)
            have K1 := hid (own_belowS HO4.out hblk)
            have K2 := hid (own_belowS HV4.out hblk)
            have HBm := hid (HB4.out.trans (hblk.mono hs4))
            have HSm := hid (MapAt.below hset hblk)
            have HSS := hid hS
            clear C3 HA3 HB3 HO3 HV3 b4 hset hS hblk HV4 g0 g1
            go_wp2_with fail
            refine (C4 _ K1.out K2.out (by simp) (by simp)).out.mono ?_
            rintro e w5 ⟨A5, c5, rfl, hA5, b5⟩
            have HB5 := hid (HBm.out.trans (b5.mono (by simp; omega)))
            have HS5 := hid (MapAt.below HSm.out b5)
            have HO5 := hid (own_belowS K1.out b5)
            have HN5 := hid hA5
            obtain ⟨_, _, _, _, _, _, hbe⟩ := qry_cells HB5.out
            have hSz := HSm.out.lt
            clear C4 K1 K2 HBm HSm b5 hA5 HO4 HB4
            have HAL := hid (rfl : (N ++ V).length = (N ++ V).length)
            have hVl : (N ++ V).length = N.length + V.length := List.length_append
            obtain ⟨Z, hZ⟩ : ∃ Z, N ++ V = Z := ⟨_, rfl⟩
            have HZ := hid hZ
            rw [hZ] at HN5 RBk RUk hVl
            rw [hZ]
            have HZN : Hid (∀ v ∈ Z, v ≠ [] ∧ v.length ≤ 9223372036854775807) := hid (fun v hv => by
              rw [← HZ.out] at hv
              rcases List.mem_append.1 hv with h | h
              · exact ⟨HNE.out v h, HNL.out v h⟩
              · exact ⟨HVN.out v h, HVL.out v h⟩)
            go_wp2
            go_loop [4, 45] (fun e4 i => ∃ j : Nat, j ≤ Z.length ∧ e4 = .int .i64 0 ∧ i = .int .i64 j ∧ Hid ((Z.take j).all BO = true)) (fun _ i => Z.length - (intOf i).toNat)
            case atStart => exact ⟨0, by omega, rfl, rfl, hid rfl⟩
            case round =>
              obtain ⟨j, hj, rfl, rfl, HJ⟩ := hrel
              by_cases hjt : j < Z.length
              · obtain ⟨bz, oz, rfl, hcz⟩ := HN5.out (by omega)
                have c0 := hcz j hjt
                obtain ⟨hzn, hzl⟩ := HZN.out Z[j] (List.getElem_mem hjt)
                have hal := all_take_succ BO Z j hjt
                have hab := all_bad BO Z j hjt
                rw [HJ.out] at hal
                obtain ⟨v, hv⟩ : ∃ v, Z[j] = v := ⟨_, rfl⟩
                rw [hv] at c0 hzn hzl hal hab
                obtain ⟨X, hX, hXd, _⟩ := nm v
                rw [hX] at c0
                have hXs := maxLen_of hXd hzl
                have hin : v ∈ S ↔ BO v = true := (HSS.out v).trans (HPB.out v hzn)
                have hlk : EB.R ((setF S X.data.toList).getD false) = .bool (decide (v ∈ S)) := by rw [hXd, setF_get]; rfl
                clear hcz hX hXd hv hzn hzl HJ
                cases hb : BO v
                · have hns : decide (v ∈ S) = false := decide_eq_false (by rw [hin, hb]; decide)
                  rw [hns] at hlk
                  have h22 := RUk.out (by trivial) h8 (hab hb)
                  have hx : 22 = x := h22.symm.trans ((Hat.out (by rw [h22]; decide)).symm.trans HX1.out)
                  subst hx
                  have HLK := hid hlk
                  clear hns hlk h22 hal hab hin hb RIk RMk RBk RUk Hon Hat HX1
                  go_wp2_with (at_lookup; refine wpList_look rfl _ _ rfl HS5.out EB_ok Tryz.underlying9 Tryz.underlying177 rfl X rfl hXs (.bool false) HLK.out ?_)
                  try rw [Exit.noGoto_ret]
                  go_ret
                  exact ⟨rfl, hbe⟩
                · have hns : decide (v ∈ S) = true := decide_eq_true (hin.2 hb)
                  rw [hns] at hlk
                  have HJ2 : Hid ((Z.take (j + 1)).all BO = true) := hid (by rw [hal, hb]; rfl)
                  have HLK := hid hlk
                  clear hns hlk hal hab hin hb
                  go_wp2_with (at_lookup; refine wpList_look rfl _ _ rfl HS5.out EB_ok Tryz.underlying9 Tryz.underlying177 rfl X rfl hXs (.bool true) HLK.out ?_)
                  go_round
                  case rel => exact ⟨j + 1, by omega, rfl, by go_num, HJ2⟩
                  case measure => simp [intOf]; omega
              · have hall : Z.all BO = true := by
                  have h1 := HJ.out
                  rw [List.take_of_length_le (by omega)] at h1
                  exact h1
                have h0 := RBk.out (by trivial) h8 hall
                have HX2 := hid ((Hon.out h0).symm.trans HX1.out)
                clear hall h0 HJ RIk RMk RBk RUk Hon Hat HX1
                go_wp2
                go_roundw
                case rel => exact ⟨k + 1, by omega, rfl, by go_num, HX2, HB5, HO5⟩
                case measure => simp [intOf]; omega
        · have by0 : (y != 0) = true := by simpa using hy0
          have hx : y = x := by
            have h1 := RIk.out hy0
            exact h1.symm.trans ((Hat.out (by rw [h1]; exact hy0)).symm.trans HX1.out)
          subst hx
          obtain ⟨_, _, _, _, _, _, hbe⟩ := qry_cells HB2.out
          clear C2 C3 RIk RMk RBk RUk Hon Hat HX1 hy0
          go_wp2
          try rw [Exit.noGoto_ret]
          go_ret
          exact ⟨rfl, hbe⟩
      · have hx : 0 = x := (firstE_end hlt).symm.trans HX1.out
        subst hx
        clear HX1
        go_wp2
        try rw [Exit.noGoto_ret]
        go_ret
        exact ⟨rfl, hbel⟩
end
end Go.Proofs.YtjhnopnppimnhaaGreatDoor
