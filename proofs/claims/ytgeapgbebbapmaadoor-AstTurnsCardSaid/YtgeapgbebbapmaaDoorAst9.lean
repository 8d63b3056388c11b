/-
  WALK: ast.Vars.
-/
import Derived.Test.YtgeapgbebbapmaaDoorAst8
namespace Go.Proofs.YtgeapgbebbapmaaDoor
open Go.RowKit

theorem own_names {w : World} {B : Nat} {u : Value} {l : List Str} (h : w.ownsRow B 9 1 u l.length (l.map nmV)) : ∃ A c, u = .slice A l.length c ∧ NmsAt w A l ∧ l.length ≤ c := by
  have h2 := h
  rcases h.2 with ⟨rfl, h0⟩ | ⟨g, cap, cur, rfl, _, _, hn, _⟩
  · exact ⟨none, 0, by rw [h0], fun hp => absurd hp (by omega), by omega⟩
  · refine ⟨_, cap, rfl, fun _ => ⟨g, 0, rfl, fun i hi => ?_⟩, hn⟩
    rw [h2.cellAt (0 + i) (by omega)]
    simp [nmV, hi]
/-- The names that are still to come. -/
theorem vars_start (r : Rul) : ((r.atoms.drop 0).flatMap atomVs ++ r.conds.map (·.v)).foldl addN [] = varsL r := rfl
theorem vars_atom {ats : List Atm} {k : Nat} (h : k < ats.length) {a : Atm} (ha : ats[k] = a) (Z : List Str) : (ats.drop k).flatMap atomVs ++ Z = (a.ts.drop 0).map (·.v) ++ ((ats.drop (k + 1)).flatMap atomVs ++ Z) := by
  rw [List.drop_eq_getElem_cons h, ha, List.flatMap_cons, List.append_assoc]; rfl
theorem vars_term {ts : List Trm} {j : Nat} (h : j < ts.length) {t : Trm} (ht : ts[j] = t) (Z acc : List Str) : ((ts.drop j).map (·.v) ++ Z).foldl addN acc = ((ts.drop (j + 1)).map (·.v) ++ Z).foldl addN (addN acc t.v) := by
  rw [List.drop_eq_getElem_cons h, ht]; rfl
theorem vars_term_end {ts : List Trm} {j : Nat} (h : ¬ j < ts.length) (Z acc : List Str) : ((ts.drop j).map (·.v) ++ Z).foldl addN acc = Z.foldl addN acc := by
  rw [List.drop_eq_nil_of_le (by omega)]; rfl
theorem vars_atom_end {ats : List Atm} {k : Nat} (h : ¬ k < ats.length) (cs : List Cnd) (acc : List Str) : ((ats.drop k).flatMap atomVs ++ cs.map (·.v)).foldl addN acc = ((cs.drop 0).map (·.v)).foldl addN acc := by
  rw [List.drop_eq_nil_of_le (by omega)]; rfl
theorem vars_cond {cs : List Cnd} {j : Nat} (h : j < cs.length) {c : Cnd} (hc : cs[j] = c) (acc : List Str) : ((cs.drop j).map (·.v)).foldl addN acc = ((cs.drop (j + 1)).map (·.v)).foldl addN (addN acc c.v) := by
  rw [List.drop_eq_getElem_cons h, hc]; rfl
theorem vars_cond_end {cs : List Cnd} {j : Nat} (h : ¬ j < cs.length) (acc : List Str) : ((cs.drop j).map (·.v)).foldl addN acc = acc := by
  rw [List.drop_eq_nil_of_le (by omega)]; rfl
theorem addN_len (acc : List Str) (v : Str) : (addN acc v).length ≤ acc.length + 1 := by
  unfold addN; split <;> simp
theorem maxLen_of {Z : ByteArray} {v : Str} (h : Z.data.toList = v) (hv : v.length ≤ 9223372036854775807) : Z.size ≤ maxLen := by
  have : Z.data.toList.length = Z.size := by simp
  rw [h] at this
  unfold maxLen; omega

set_option maxRecDepth 100000 in
set_option maxHeartbeats 8000000 in
theorem ast_vars (r : Rul) (T T' : Option Addr) (c c' : Nat) (w : World) (ha : AtmsAt w T r.atoms) (hcn : CndsAt w T' r.conds) (hf : r.few) (hwf : r.wf) {x : List Str} (hx : varsL r = x) :
    Calls Tryd.prog 22 #[.agg #[.slice T r.atoms.length c, .slice T' r.conds.length c']] w fun e w' => ∃ u B, e = .returned u ∧ w.heap.size ≤ B ∧ w'.ownsRow B 9 1 u x.length (x.map nmV) ∧ Below w.heap.size w w' := by
  have HX : Hid (((r.atoms.drop 0).flatMap atomVs ++ r.conds.map (·.v)).foldl addN [] = x) := hid hx
  clear hx
  obtain ⟨ats, cds⟩ := r
  obtain ⟨f1, f2, f3⟩ := hf
  have hw0 := hwf.atoms
  have hw1 := hwf.conds
  simp only at f1 f2 f3 hw0 hw1 ha hcn HX ⊢
  have F3 := hid f3
  have HW := hid hw0
  have HC := hid hw1
  clear f3 hw0 hw1 hwf
  have hmm := @run_makeMap Tryd.prog
  have hmf : ∀ (fn : Fn) (first cap : Array Value) (w : World), (Instr.makeFunc fn first cap).run Tryd.prog w = .ok (.func fn first cap) w := fun _ _ _ _ => rfl
  have hmade : SetAt ((((w.alloc (.cells #[.slice T ats.length c, .slice T' cds.length c'] 49)).alloc (.cells #[.slice none 0 0] 22)).alloc (.map #[] 0))) (w.heap.size + 1 + 1) 0 [] := by
    have := SetAt.made ((w.alloc (.cells #[.slice T ats.length c, .slice T' cds.length c'] 49)).alloc (.cells #[.slice none 0 0] 22))
    simpa using this
  have HM := hid hmade
  clear hmade
  have g0 : Hid ((((w.alloc (.cells #[.slice T ats.length c, .slice T' cds.length c'] 49)).alloc (.cells #[.slice none 0 0] 22)).alloc (.map #[] 0)).cell? ⟨w.heap.size, 0, none⟩ = some (.slice T ats.length c)) := hid (cell_keep (below_one _ _) (cell_keep (below_one _ _) (by simp)))
  have g1 : Hid ((((w.alloc (.cells #[.slice T ats.length c, .slice T' cds.length c'] 49)).alloc (.cells #[.slice none 0 0] 22)).alloc (.map #[] 0)).cell? ⟨w.heap.size, 1, none⟩ = some (.slice T' cds.length c')) := hid (cell_keep (below_one _ _) (cell_keep (below_one _ _) (by simp)))
  have hne1 : some w.heap.size ≠ some (w.heap.size + 1 + 1) := fun e => by injection e; omega
  go_enter Tryd.func22, Tryd.ntmps22
  go_wp2_with (refine wpList_insert rfl _ _ _ rfl HM.out Tryd.underlying9 Tryd.underlying87 (by decide) rfl ⟨#[]⟩ rfl (by decide) true rfl EB_true ?_; intro w2 hmap2 hg2; have e0 := hg2.cell g0.out hne1; have e1 := hg2.cell g1.out hne1; have hw2 : w.heap.size < w2.heap.size := by (have := hg2.size; simp only [World.size_alloc] at this; omega))
  have hsz2 := hg2.size
  simp only [World.size_alloc] at hsz2
  have hbb : Below (w.heap.size + 1) (w.alloc (.cells #[.slice T ats.length c, .slice T' cds.length c'] 49)) (w2.alloc (.cells #[.map (some (w.heap.size + 1 + 1))] 87)) :=
    (((((Below.refl _ _).alloc (by simp) _).alloc (by first | (simp; done) | (simp; omega)) _).grown hg2 (by first | (simp; done) | (simp; omega)) (fun j hj => by injection hj; omega)).alloc (by omega) _)
  have hvi : VInv (w2.alloc (.cells #[.map (some (w.heap.size + 1 + 1))] 87)) w2.heap.size (w.heap.size + 1) (w.heap.size + 1 + 1) (w2.heap.size + 1) 1 [] := by
    have hm2 := hmap2.alloc (.cells #[.map (some (w.heap.size + 1 + 1))] 87)
    rw [setF_put] at hm2
    refine ⟨heap_alloc_new _ _, ⟨.slice none 0 0, ?_, World.ownsRow_nil _ _ _ _⟩, hm2, by omega, by omega, by omega, by omega, by omega, by omega, by simp⟩
    rw [Below.heap_alloc _ _ _ (by omega), hg2.block (w.heap.size + 1) (by simp) (by simp)]
    rw [Below.heap_alloc _ _ _ (by simp)]
    have := heap_alloc_new (w.alloc (.cells #[.slice T ats.length c, .slice T' cds.length c'] 49)) (.cells #[.slice none 0 0] 22)
    simpa using this
  have HB := hid hbb
  have HV := hid hvi
  clear hbb hvi hmap2 hg2 HM hmm hmf e0 e1
  have hBs2 : w.heap.size + 3 ≤ w2.heap.size := by omega
  go_loopw [18] (fun i wr => ∃ (k n : Nat) (acc : List Str), k ≤ ats.length ∧ i = .int .i64 k ∧ n ≤ 1 + k * 6 ∧ acc.length ≤ k * 6 ∧ Hid (VInv wr w2.heap.size (w.heap.size + 1) (w.heap.size + 1 + 1) (w2.heap.size + 1) n acc) ∧ Hid (((ats.drop k).flatMap atomVs ++ cds.map (·.v)).foldl addN acc = x) ∧ Hid (Below (w.heap.size + 1) (w.alloc (.cells #[.slice T ats.length c, .slice T' cds.length c'] 49)) wr)) (fun i _ => ats.length - (intOf i).toNat)
  case atStart => exact ⟨0, 1, [], by omega, rfl, by omega, by simp, HV, HX, HB⟩
  case round =>
    obtain ⟨k, n, acc, hk, rfl, hn, hacc, HV1, HX1, HB1⟩ := hrel
    obtain ⟨wo, rfl⟩ : ∃ wo : World, wo = wr := ⟨_, rfl⟩
    clear HV HX HB
    have hbel : Below w.heap.size w wo := (below_one w _).trans (HB1.out.mono (by omega))
    have hsz := hbel.size
    have hbig : w2.heap.size + 1 ≤ wo.heap.size := HV1.out.d.2.2.2.2.2.2
    by_cases hlt : k < ats.length
    · obtain ⟨bb, o, rfl, hc⟩ := ha (by omega)
      obtain ⟨Q, qc, d0, d1, d2, hq, hql, hqm⟩ := hc k hlt
      replace d0 := cell_keep hbel d0
      replace d1 := cell_keep hbel d1
      replace d2 := cell_keep hbel d2
      have h6 := F3.out ats[k] (List.getElem_mem hlt)
      have hwa := HW.out ats[k] (List.getElem_mem hlt)
      obtain ⟨a, ea⟩ : ∃ a, ats[k] = a := ⟨_, rfl⟩
      have hsp := vars_atom hlt ea (cds.map (·.v))
      rw [ea] at d0 d1 d2 hq hql hqm h6 hwa
      have HX2 := HX1.out
      rw [hsp] at HX2
      replace HX2 := hid HX2
      clear ea hc hsp HX1
      obtain ⟨neg, rel, ts⟩ := a
      have HT := hid hwa.ts
      clear hwa
      simp only at *
      obtain ⟨Y, hY, _, _⟩ := nm rel
      rw [hY] at d1
      have HVN := hid (HV1.out.below (below_one wo (.cells #[.bool neg, .string Y, .slice Q ts.length qc] 60)))
      have HBN := hid (HB1.out.alloc (by omega) (.cells #[.bool neg, .string Y, .slice Q ts.length qc] 60))
      clear HV1 HB1 hY
      go_wp2
      go_loopw [25] (fun i wr => ∃ (j m : Nat) (ac : List Str), j ≤ ts.length ∧ i = .int .i64 j ∧ m ≤ 1 + k * 6 + j ∧ ac.length ≤ k * 6 + j ∧ Hid (VInv wr w2.heap.size (w.heap.size + 1) (w.heap.size + 1 + 1) (w2.heap.size + 1) m ac) ∧ Hid (((ts.drop j).map (·.v) ++ ((ats.drop (k + 1)).flatMap atomVs ++ cds.map (·.v))).foldl addN ac = x) ∧ Hid (Below (w.heap.size + 1) (w.alloc (.cells #[.slice (some ⟨bb, o, none⟩) ats.length c, .slice T' cds.length c'] 49)) wr)) (fun i _ => ts.length - (intOf i).toNat)
      case atStart => exact ⟨0, n, acc, by omega, rfl, by omega, by omega, HVN, HX2, HBN⟩
      case round =>
        obtain ⟨j, m, ac, hj, rfl, hm, hac, HV1, HX1, HB1⟩ := hrel
        clear HVN HX2 HBN
        have hbelq : Below w.heap.size w wr := (below_one w _).trans (HB1.out.mono (by omega))
        have hszq := hbelq.size
        have hbigq : w2.heap.size + 1 ≤ wr.heap.size := HV1.out.d.2.2.2.2.2.2
        by_cases hjt : j < ts.length
        · obtain ⟨bb2, o2, rfl, hc2⟩ := hq (by omega)
          obtain ⟨g0, g1, g2, g3⟩ := hc2 j hjt
          replace g0 := cell_keep hbelq g0
          replace g1 := cell_keep hbelq g1
          replace g2 := cell_keep hbelq g2
          replace g3 := cell_keep hbelq g3
          have hvl := (HT.out ts[j] (List.getElem_mem hjt)).v
          obtain ⟨t, et⟩ : ∃ t, ts[j] = t := ⟨_, rfl⟩
          have HX2 := hid ((vars_term hjt et _ ac).symm.trans HX1.out)
          rw [et] at g0 g1 g2 g3 hvl
          clear et hc2 HX1
          obtain ⟨v, ⟨ck, cn, cs⟩⟩ := t
          simp only at *
          obtain ⟨Z, hZ, hZd, hZl⟩ := nm v
          clear hZl
          rw [hZ] at g0
          have hZs := maxLen_of hZd hvl
          have HVN := hid (HV1.out.below (below_one wr (.cells #[.string Z, .int .i64 ck, .int .i64 cn, .string cs] 56)))
          have HBN := hid (HB1.out.alloc (by omega) (.cells #[.string Z, .int .i64 ck, .int .i64 cn, .string cs] 56))
          have hal := addN_len ac v
          have H1 := fun W h => hid (vars_add Z w2.heap.size (w.heap.size + 1) (w.heap.size + 1 + 1) (w2.heap.size + 1) m ac W h (by omega) (by omega) hZs (B := w.heap.size + 1) (by omega))
          rw [hZd] at H1
          clear hZ hZd hZs hvl HV1 HB1
          go_wp2_with fail
          refine (H1 _ HVN.out).out.mono ?_
          rintro e w3 ⟨rfl, hv3, hb3⟩
          have HV3 := hid hv3
          have HB3 := hid (HBN.out.trans hb3)
          clear hv3 hb3 H1 HVN HBN
          go_wp2
          go_roundw
          case rel => exact ⟨j + 1, m + 1, addN ac v, by omega, by go_num, by omega, by omega, HV3, HX2, HB3⟩
          case measure => simp [intOf]; omega
        · have HX2 := hid ((vars_term_end hjt _ ac).symm.trans HX1.out)
          clear HX1
          go_wp2
          go_roundw
          case rel => exact ⟨k + 1, m, ac, by omega, by go_num, by omega, by omega, HV1, HX2, HB1⟩
          case measure => simp [intOf]; omega
    · have HX2 := hid ((vars_atom_end hlt cds acc).symm.trans HX1.out)
      have hbx : wo.cell? ⟨w.heap.size, 1, none⟩ = some (.slice T' cds.length c') := (HB1.out.cell (p := ⟨w.heap.size, 1, none⟩) (by simp)).trans (by simp)
      have hlt5 : w.heap.size < wo.heap.size := by omega
      clear HX1
      go_wp2
      go_loopw [38] (fun i wr => ∃ (j m : Nat) (ac : List Str), j ≤ cds.length ∧ i = .int .i64 j ∧ m ≤ 100 + j ∧ ac.length ≤ 100 + j ∧ Hid (VInv wr w2.heap.size (w.heap.size + 1) (w.heap.size + 1 + 1) (w2.heap.size + 1) m ac) ∧ Hid (((cds.drop j).map (·.v)).foldl addN ac = x) ∧ Hid (Below (w.heap.size + 1) (w.alloc (.cells #[.slice T ats.length c, .slice T' cds.length c'] 49)) wr)) (fun i _ => cds.length - (intOf i).toNat)
      case atStart => exact ⟨0, n, acc, by omega, rfl, by omega, by omega, HV1, HX2, HB1⟩
      case round =>
        obtain ⟨j, m, ac, hj, rfl, hm, hac, HV3, HX3, HB3⟩ := hrel
        clear HV1 HX2 HB1 hbx
        have hbelq : Below w.heap.size w wr := (below_one w _).trans (HB3.out.mono (by omega))
        have hszq := hbelq.size
        have hbigq : w2.heap.size + 1 ≤ wr.heap.size := HV3.out.d.2.2.2.2.2.2
        by_cases hjt : j < cds.length
        · obtain ⟨bb2, o2, rfl, hc2⟩ := hcn (by omega)
          obtain ⟨g0, g1, g2, g3, g4⟩ := hc2 j hjt
          replace g0 := cell_keep hbelq g0
          replace g1 := cell_keep hbelq g1
          replace g2 := cell_keep hbelq g2
          replace g3 := cell_keep hbelq g3
          replace g4 := cell_keep hbelq g4
          have hvl := (HC.out cds[j] (List.getElem_mem hjt)).v
          obtain ⟨t, et⟩ : ∃ t, cds[j] = t := ⟨_, rfl⟩
          have HX2 := hid ((vars_cond hjt et ac).symm.trans HX3.out)
          rw [et] at g0 g1 g2 g3 g4 hvl
          clear et hc2 HX3
          obtain ⟨v, op, ⟨ck, cn, cs⟩⟩ := t
          simp only at *
          obtain ⟨Z, hZ, hZd, hZl⟩ := nm v
          clear hZl
          rw [hZ] at g0
          have hZs := maxLen_of hZd hvl
          have HVN := hid (HV3.out.below (below_one wr (.cells #[.string Z, .int .i64 op, .int .i64 ck, .int .i64 cn, .string cs] 62)))
          have HBN := hid (HB3.out.alloc (by omega) (.cells #[.string Z, .int .i64 op, .int .i64 ck, .int .i64 cn, .string cs] 62))
          have hal := addN_len ac v
          have H1 := fun W h => hid (vars_add Z w2.heap.size (w.heap.size + 1) (w.heap.size + 1 + 1) (w2.heap.size + 1) m ac W h (by omega) (by omega) hZs (B := w.heap.size + 1) (by omega))
          rw [hZd] at H1
          clear hZ hZd hZs hvl HV3 HB3
          go_wp2_with fail
          refine (H1 _ HVN.out).out.mono ?_
          rintro e w3 ⟨rfl, hv3, hb3⟩
          have HV4 := hid hv3
          have HB4 := hid (HBN.out.trans hb3)
          clear hv3 hb3 H1 HVN HBN
          go_wp2
          go_roundw
          case rel => exact ⟨j + 1, m + 1, addN ac v, by omega, by go_num, by omega, by omega, HV4, HX2, HB4⟩
          case measure => simp [intOf]; omega
        · have hx : ac = x := (vars_cond_end hjt ac).symm.trans HX3.out
          subst hx
          obtain ⟨_, ⟨u, hu, hown⟩, _⟩ := HV3.out
          have cu := cell_of_one hu
          have HO := hid hown
          clear HX3 hu hown
          go_wp2
          go_ret
          exact ⟨u, w2.heap.size + 1, rfl, by omega, HO.out, hbelq⟩
end Go.Proofs.YtgeapgbebbapmaaDoor
