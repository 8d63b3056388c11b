/-
  PARTS of a claim, merged by segs.py: Ast9, Ast10.
-/
import Derived.Test.YtjhnopnppimnhaaGreatDoorZ10
import Derived.Lib.AppendZeros
import Derived.Lib.SliceRun
import Derived.Laws.AppendOwnNone
namespace Go.Proofs.YtjhnopnppimnhaaGreatDoor

/-! ### Ast9 -/
section
open Go.RowKit

theorem own_names {w : World} {B : Nat} {u : Value} {l : List Str} (h : w.ownsRow B 9 1 u l.length (l.map nmV)) : ∃ A c, u = .slice A l.length c ∧ NmsAt w A l ∧ l.length ≤ c := by
  have h2 := h
  rcases h.2 with ⟨rfl, h0⟩ | ⟨g, cap, cur, rfl, _, _, hn, _⟩
  · exact ⟨none, 0, by rw [h0], fun hp => absurd hp (by omega), by omega⟩
  · refine ⟨_, cap, rfl, fun _ => ⟨g, 0, rfl, fun i hi => ?_⟩, hn⟩
    rw [h2.cellAt (0 + i) (by omega)]
    simp [nmV, hi]
/-- The names that are still to come. -/
theorem vars_start (r : Rul) : ((r.atoms.drop 0).flatMap atomVs ++ r.conds.map (·.v)).foldl addN [] = varsL r := rfl
theorem vars_atom {ats : List Atm} {k : Nat} (h : k < ats.length) {a : Atm} (ha : ats[k] = a) (Z : List Str) : (ats.drop k).flatMap atomVs ++ Z = (a.ts.drop 0).map (·.v) ++ ((ats.drop (k + 1)).flatMap atomVs ++ Z) := by
  rw [List.drop_eq_getElem_cons h, ha, List.flatMap_cons, List.append_assoc]; rfl
theorem vars_term {ts : List Trm} {j : Nat} (h : j < ts.length) {t : Trm} (ht : ts[j] = t) (Z acc : List Str) : ((ts.drop j).map (·.v) ++ Z).foldl addN acc = ((ts.drop (j + 1)).map (·.v) ++ Z).foldl addN (addN acc t.v) := by
  rw [List.drop_eq_getElem_cons h, ht]; rfl
theorem vars_term_end {ts : List Trm} {j : Nat} (h : ¬ j < ts.length) (Z acc : List Str) : ((ts.drop j).map (·.v) ++ Z).foldl addN acc = Z.foldl addN acc := by
  rw [List.drop_eq_nil_of_le (by omega)]; rfl
theorem vars_atom_end {ats : List Atm} {k : Nat} (h : ¬ k < ats.length) (cs : List Cnd) (acc : List Str) : ((ats.drop k).flatMap atomVs ++ cs.map (·.v)).foldl addN acc = ((cs.drop 0).map (·.v)).foldl addN acc := by
  rw [List.drop_eq_nil_of_le (by omega)]; rfl
theorem vars_cond {cs : List Cnd} {j : Nat} (h : j < cs.length) {c : Cnd} (hc : cs[j] = c) (acc : List Str) : ((cs.drop j).map (·.v)).foldl addN acc = ((cs.drop (j + 1)).map (·.v)).foldl addN (addN acc c.v) := by
  rw [List.drop_eq_getElem_cons h, hc]; rfl
theorem vars_cond_end {cs : List Cnd} {j : Nat} (h : ¬ j < cs.length) (acc : List Str) : ((cs.drop j).map (·.v)).foldl addN acc = acc := by
  rw [List.drop_eq_nil_of_le (by omega)]; rfl
theorem addN_len (acc : List Str) (v : Str) : (addN acc v).length ≤ acc.length + 1 := by
  unfold addN; split <;> simp
theorem maxLen_of {Z : ByteArray} {v : Str} (h : Z.data.toList = v) (hv : v.length ≤ 9223372036854775807) : Z.size ≤ maxLen := by
  have : Z.data.toList.length = Z.size := by simp
  rw [h] at this
  unfold maxLen; omega

set_option maxRecDepth 100000 in
set_option maxHeartbeats 8000000 in
theorem ast_vars (r : Rul) (T T' : Option Addr) (c c' : Nat) (w : World) (ha : AtmsAt w T r.atoms) (hcn : CndsAt w T' r.conds) (hf : r.few) (hwf : r.wf) {x : List Str} (hx : varsL r = x) :
    Calls Tryz.prog 126 #[.agg #[.slice T r.atoms.length c, .slice T' r.conds.length c']] w fun e w' => ∃ u B, e = .returned u ∧ w.heap.size ≤ B ∧ w'.ownsRow B 9 1 u x.length (x.map nmV) ∧ Below w.heap.size w w' := by
  have HX : Hid (((r.atoms.drop 0).flatMap atomVs ++ r.conds.map (·.v)).foldl addN [] = x) := hid hx
  clear hx
  obtain ⟨ats, cds⟩ := r
  obtain ⟨f1, f2, f3⟩ := hf
  have hw0 := hwf.atoms
  have hw1 := hwf.conds
  simp only at f1 f2 f3 hw0 hw1 ha hcn HX ⊢
  have F3 := hid f3
  have HW := hid hw0
  have HC := hid hw1
  clear f3 hw0 hw1 hwf
  have hmm := @run_makeMap Tryz.prog
  have hmf : ∀ (fn : Fn) (first cap : Array Value) (w : World), (Instr.makeFunc fn first cap).run Tryz.prog w = .ok (.func fn first cap) w := fun _ _ _ _ => rfl
  have hmade : SetAt ((((w.alloc (.cells #[.slice T ats.length c, .slice T' cds.length c'] 142)).alloc (.cells #[.slice none 0 0] 27)).alloc (.map #[] 0))) (w.heap.size + 1 + 1) 0 [] := by
    have := SetAt.made ((w.alloc (.cells #[.slice T ats.length c, .slice T' cds.length c'] 142)).alloc (.cells #[.slice none 0 0] 27))
    simpa using this
  have HM := hid hmade
  clear hmade
  have g0 : Hid ((((w.alloc (.cells #[.slice T ats.length c, .slice T' cds.length c'] 142)).alloc (.cells #[.slice none 0 0] 27)).alloc (.map #[] 0)).cell? ⟨w.heap.size, 0, none⟩ = some (.slice T ats.length c)) := hid (cell_keep (below_one _ _) (cell_keep (below_one _ _) (by simp)))
  have g1 : Hid ((((w.alloc (.cells #[.slice T ats.length c, .slice T' cds.length c'] 142)).alloc (.cells #[.slice none 0 0] 27)).alloc (.map #[] 0)).cell? ⟨w.heap.size, 1, none⟩ = some (.slice T' cds.length c')) := hid (cell_keep (below_one _ _) (cell_keep (below_one _ _) (by simp)))
  have hne1 : some w.heap.size ≠ some (w.heap.size + 1 + 1) := fun e => by injection e; omega
  go_enter Tryz.func126, Tryz.ntmps126
  go_wp2_with (refine wpList_insert rfl _ _ _ rfl HM.out Tryz.underlying9 Tryz.underlying177 (by decide) rfl ⟨#[]⟩ rfl (by decide) true rfl EB_true ?_; intro w2 hmap2 hg2; have e0 := hg2.cell g0.out hne1; have e1 := hg2.cell g1.out hne1; have hw2 : w.heap.size < w2.heap.size := by (have := hg2.size; simp only [World.size_alloc] at this; omega))
  have hsz2 := hg2.size
  simp only [World.size_alloc] at hsz2
  have hbb : Below (w.heap.size + 1) (w.alloc (.cells #[.slice T ats.length c, .slice T' cds.length c'] 142)) (w2.alloc (.cells #[.map (some (w.heap.size + 1 + 1))] 177)) :=
    (((((Below.refl _ _).alloc (by simp) _).alloc (by first | (simp; done) | (simp; omega)) _).grown hg2 (by first | (simp; done) | (simp; omega)) (fun j hj => by injection hj; omega)).alloc (by omega) _)
  have hvi : VInv (w2.alloc (.cells #[.map (some (w.heap.size + 1 + 1))] 177)) w2.heap.size (w.heap.size + 1) (w.heap.size + 1 + 1) (w2.heap.size + 1) 1 [] := by
    have hm2 := hmap2.alloc (.cells #[.map (some (w.heap.size + 1 + 1))] 177)
    rw [setF_put] at hm2
    refine ⟨heap_alloc_new _ _, ⟨.slice none 0 0, ?_, World.ownsRow_nil _ _ _ _⟩, hm2, by omega, by omega, by omega, by omega, by omega, by omega, by simp⟩
    rw [Below.heap_alloc _ _ _ (by omega), hg2.block (w.heap.size + 1) (by simp) (by simp)]
    rw [Below.heap_alloc _ _ _ (by simp)]
    have := heap_alloc_new (w.alloc (.cells #[.slice T ats.length c, .slice T' cds.length c'] 142)) (.cells #[.slice none 0 0] 27)
    simpa using this
  have HB := hid hbb
  have HV := hid hvi
  clear hbb hvi hmap2 hg2 HM hmm hmf e0 e1
  have hBs2 : w.heap.size + 3 ≤ w2.heap.size := by omega
  go_loopw [18] (fun i wr => ∃ (k n : Nat) (acc : List Str), k ≤ ats.length ∧ i = .int .i64 k ∧ n ≤ 1 + k * 6 ∧ acc.length ≤ k * 6 ∧ Hid (VInv wr w2.heap.size (w.heap.size + 1) (w.heap.size + 1 + 1) (w2.heap.size + 1) n acc) ∧ Hid (((ats.drop k).flatMap atomVs ++ cds.map (·.v)).foldl addN acc = x) ∧ Hid (Below (w.heap.size + 1) (w.alloc (.cells #[.slice T ats.length c, .slice T' cds.length c'] 142)) wr)) (fun i _ => ats.length - (intOf i).toNat)
  case atStart => exact ⟨0, 1, [], by omega, rfl, by omega, by simp, HV, HX, HB⟩
  case round =>
    obtain ⟨k, n, acc, hk, rfl, hn, hacc, HV1, HX1, HB1⟩ := hrel
    obtain ⟨wo, rfl⟩ : ∃ wo : World, wo = wr := ⟨_, rfl⟩
    clear HV HX HB
    have hbel : Below w.heap.size w wo := (below_one w _).trans (HB1.out.mono (by omega))
    have hsz := hbel.size
    have hbig : w2.heap.size + 1 ≤ wo.heap.size := HV1.out.d.2.2.2.2.2.2
    by_cases hlt : k < ats.length
    · obtain ⟨bb, o, rfl, hc⟩ := ha (by omega)
      obtain ⟨Q, qc, d0, d1, d2, hq, hql, hqm⟩ := hc k hlt
      replace d0 := cell_keep hbel d0
      replace d1 := cell_keep hbel d1
      replace d2 := cell_keep hbel d2
      have h6 := F3.out ats[k] (List.getElem_mem hlt)
      have hwa := HW.out ats[k] (List.getElem_mem hlt)
      obtain ⟨a, ea⟩ : ∃ a, ats[k] = a := ⟨_, rfl⟩
      have hsp := vars_atom hlt ea (cds.map (·.v))
      rw [ea] at d0 d1 d2 hq hql hqm h6 hwa
      have HX2 := HX1.out
      rw [hsp] at HX2
      replace HX2 := hid HX2
      clear ea hc hsp HX1
      obtain ⟨neg, rel, ts⟩ := a
      have HT := hid hwa.ts
      clear hwa
      simp only at *
      obtain ⟨Y, hY, _, _⟩ := nm rel
      rw [hY] at d1
      have HVN := hid (HV1.out.below (below_one wo (.cells #[.bool neg, .string Y, .slice Q ts.length qc] 188)))
      have HBN := hid (HB1.out.alloc (by omega) (.cells #[.bool neg, .string Y, .slice Q ts.length qc] 188))
      clear HV1 HB1 hY
      go_wp2
      go_loopw [25] (fun i wr => ∃ (j m : Nat) (ac : List Str), j ≤ ts.length ∧ i = .int .i64 j ∧ m ≤ 1 + k * 6 + j ∧ ac.length ≤ k * 6 + j ∧ Hid (VInv wr w2.heap.size (w.heap.size + 1) (w.heap.size + 1 + 1) (w2.heap.size + 1) m ac) ∧ Hid (((ts.drop j).map (·.v) ++ ((ats.drop (k + 1)).flatMap atomVs ++ cds.map (·.v))).foldl addN ac = x) ∧ Hid (Below (w.heap.size + 1) (w.alloc (.cells #[.slice (some ⟨bb, o, none⟩) ats.length c, .slice T' cds.length c'] 142)) wr)) (fun i _ => ts.length - (intOf i).toNat)
      case atStart => exact ⟨0, n, acc, by omega, rfl, by omega, by omega, HVN, HX2, HBN⟩
      case round =>
        obtain ⟨j, m, ac, hj, rfl, hm, hac, HV1, HX1, HB1⟩ := hrel
        clear HVN HX2 HBN
        have hbelq : Below w.heap.size w wr := (below_one w _).trans (HB1.out.mono (by omega))
        have hszq := hbelq.size
        have hbigq : w2.heap.size + 1 ≤ wr.heap.size := HV1.out.d.2.2.2.2.2.2
        by_cases hjt : j < ts.length
        · obtain ⟨bb2, o2, rfl, hc2⟩ := hq (by omega)
          obtain ⟨g0, g1, g2, g3⟩ := hc2 j hjt
          replace g0 := cell_keep hbelq g0
          replace g1 := cell_keep hbelq g1
          replace g2 := cell_keep hbelq g2
          replace g3 := cell_keep hbelq g3
          have hvl := (HT.out ts[j] (List.getElem_mem hjt)).v
          obtain ⟨t, et⟩ : ∃ t, ts[j] = t := ⟨_, rfl⟩
          have HX2 := hid ((vars_term hjt et _ ac).symm.trans HX1.out)
          rw [et] at g0 g1 g2 g3 hvl
          clear et hc2 HX1
          obtain ⟨v, ⟨ck, cn, cs⟩⟩ := t
          simp only at *
          obtain ⟨Z, hZ, hZd, hZl⟩ := nm v
          clear hZl
          rw [hZ] at g0
          have hZs := maxLen_of hZd hvl
          have HVN := hid (HV1.out.below (below_one wr (.cells #[.string Z, .int .i64 ck, .int .i64 cn, .string cs] 201)))
          have HBN := hid (HB1.out.alloc (by omega) (.cells #[.string Z, .int .i64 ck, .int .i64 cn, .string cs] 201))
          have hal := addN_len ac v
          have H1 := fun W h => hid (vars_add Z w2.heap.size (w.heap.size + 1) (w.heap.size + 1 + 1) (w2.heap.size + 1) m ac W h (by omega) (by omega) hZs (B := w.heap.size + 1) (by omega))
          rw [hZd] at H1
          clear hZ hZd hZs hvl HV1 HB1
          go_wp2_with fail
          refine (H1 _ HVN.out).out.mono ?_
          rintro e w3 ⟨rfl, hv3, hb3⟩
          have HV3 := hid hv3
          have HB3 := hid (HBN.out.trans hb3)
          clear hv3 hb3 H1 HVN HBN
          go_wp2
          go_roundw
          case rel => exact ⟨j + 1, m + 1, addN ac v, by omega, by go_num, by omega, by omega, HV3, HX2, HB3⟩
          case measure => simp [intOf]; omega
        · have HX2 := hid ((vars_term_end hjt _ ac).symm.trans HX1.out)
          clear HX1
          go_wp2
          go_roundw
          case rel => exact ⟨k + 1, m, ac, by omega, by go_num, by omega, by omega, HV1, HX2, HB1⟩
          case measure => simp [intOf]; omega
    · have HX2 := hid ((vars_atom_end hlt cds acc).symm.trans HX1.out)
      have hbx : wo.cell? ⟨w.heap.size, 1, none⟩ = some (.slice T' cds.length c') := (HB1.out.cell (p := ⟨w.heap.size, 1, none⟩) (by simp)).trans (by simp)
      have hlt5 : w.heap.size < wo.heap.size := by omega
      clear HX1
      go_wp2
      go_loopw [38] (fun i wr => ∃ (j m : Nat) (ac : List Str), j ≤ cds.length ∧ i = .int .i64 j ∧ m ≤ 100 + j ∧ ac.length ≤ 100 + j ∧ Hid (VInv wr w2.heap.size (w.heap.size + 1) (w.heap.size + 1 + 1) (w2.heap.size + 1) m ac) ∧ Hid (((cds.drop j).map (·.v)).foldl addN ac = x) ∧ Hid (Below (w.heap.size + 1) (w.alloc (.cells #[.slice T ats.length c, .slice T' cds.length c'] 142)) wr)) (fun i _ => cds.length - (intOf i).toNat)
      case atStart => exact ⟨0, n, acc, by omega, rfl, by omega, by omega, HV1, HX2, HB1⟩
      case round =>
        obtain ⟨j, m, ac, hj, rfl, hm, hac, HV3, HX3, HB3⟩ := hrel
        clear HV1 HX2 HB1 hbx
        have hbelq : Below w.heap.size w wr := (below_one w _).trans (HB3.out.mono (by omega))
        have hszq := hbelq.size
        have hbigq : w2.heap.size + 1 ≤ wr.heap.size := HV3.out.d.2.2.2.2.2.2
        by_cases hjt : j < cds.length
        · obtain ⟨bb2, o2, rfl, hc2⟩ := hcn (by omega)
          obtain ⟨g0, g1, g2, g3, g4⟩ := hc2 j hjt
          replace g0 := cell_keep hbelq g0
          replace g1 := cell_keep hbelq g1
          replace g2 := cell_keep hbelq g2
          replace g3 := cell_keep hbelq g3
          replace g4 := cell_keep hbelq g4
          have hvl := (HC.out cds[j] (List.getElem_mem hjt)).v
          obtain ⟨t, et⟩ : ∃ t, cds[j] = t := ⟨_, rfl⟩
          have HX2 := hid ((vars_cond hjt et ac).symm.trans HX3.out)
          rw [et] at g0 g1 g2 g3 g4 hvl
          clear et hc2 HX3
          obtain ⟨v, op, ⟨ck, cn, cs⟩⟩ := t
          simp only at *
          obtain ⟨Z, hZ, hZd, hZl⟩ := nm v
          clear hZl
          rw [hZ] at g0
          have hZs := maxLen_of hZd hvl
          have HVN := hid (HV3.out.below (below_one wr (.cells #[.string Z, .int .i64 op, .int .i64 ck, .int .i64 cn, .string cs] 192)))
          have HBN := hid (HB3.out.alloc (by omega) (.cells #[.string Z, .int .i64 op, .int .i64 ck, .int .i64 cn, .string cs] 192))
          have hal := addN_len ac v
          have H1 := fun W h => hid (vars_add Z w2.heap.size (w.heap.size + 1) (w.heap.size + 1 + 1) (w2.heap.size + 1) m ac W h (by omega) (by omega) hZs (B := w.heap.size + 1) (by omega))
          rw [hZd] at H1
          clear hZ hZd hZs hvl HV3 HB3
          go_wp2_with fail
          refine (H1 _ HVN.out).out.mono ?_
          rintro e w3 ⟨rfl, hv3, hb3⟩
          have HV4 := hid hv3
          have HB4 := hid (HBN.out.trans hb3)
          clear hv3 hb3 H1 HVN HBN
          go_wp2
          go_roundw
          case rel => exact ⟨j + 1, m + 1, addN ac v, by omega, by go_num, by omega, by omega, HV4, HX2, HB4⟩
          case measure => simp [intOf]; omega
        · have hx : ac = x := (vars_cond_end hjt ac).symm.trans HX3.out
          subst hx
          obtain ⟨_, ⟨u, hu, hown⟩, _⟩ := HV3.out
          have cu := cell_of_one hu
          have HO := hid hown
          clear HX3 hu hown
          go_wp2
          go_ret
          exact ⟨u, w2.heap.size + 1, rfl, by omega, HO.out, hbelq⟩
end

/-! ### Ast10 -/
section
open Go.RowKit

theorem nm_cells {w : World} {a : Addr} {l : List Str} (h : NmsAt w (some a) l) : ∀ j u, (l.map nmV)[j]? = some u → w.cell? (a.add j) = some u := by
  intro j u hj
  have hjl : j < l.length := by have := (List.getElem?_eq_some_iff.1 hj).1; simpa using this
  obtain ⟨b, o, e, hc⟩ := h (by omega)
  injection e with e
  subst e
  rw [Addr.add_lit, hc j hjl]
  rw [List.getElem?_map, List.getElem?_eq_getElem hjl] at hj
  exact hj
theorem nm_one (l : List Str) : ∀ u ∈ l.map nmV, u.oneCell' = true := by
  intro u hu
  obtain ⟨x, _, rfl⟩ := List.mem_map.1 hu
  rfl

set_option maxRecDepth 100000 in
set_option maxHeartbeats 2000000 in
theorem sl_clone (A : Option Addr) (c : Nat) (l : List Str) (w : World) (hl : NmsAt w A l) (hm : l.length ≤ 100000) :
    Calls Tryz.prog 124 #[.slice A l.length c] w fun e w' => ∃ u, e = .returned u ∧ w'.ownsRow w.heap.size 9 1 u l.length (l.map nmV) ∧ Below w.heap.size w w' := by
  obtain ⟨i0, hi, hz0, hz1, hz2⟩ := info_parts infoStr
  have q22 : ∀ (w : World) (a : Option Addr) (n c n' c' : Nat), (binOp .eql 27 (.slice a n c) (.slice none n' c')).run Tryz.prog w = .ok (.bool a.isNone) w := fun w a n c n' c' => Lib.run_eql_slice_nil w _ _ a n c n' c' Tryz.underlying27
  cases A with
  | none =>
    have h0 : l = [] := by
      cases l with
      | nil => rfl
      | cons x r => obtain ⟨b, o, e, _⟩ := hl (by simp); cases e
    subst h0
    go_enter Tryz.func124, Tryz.ntmps124
    go_wp2
    go_ret
    exact ⟨_, rfl, World.ownsRow_nil _ _ _ _, Below.refl _ _⟩
  | some a =>
    have HL := hid hl
    clear hl
    go_enter Tryz.func124, Tryz.ntmps124
    go_wp2_with (at_builtin; refine wpList_append_own _ rfl _ _ 27 rfl w.heap.size 9 i0 (.string ⟨#[]⟩) 1 16 Tryz.underlying27 hi hz0 hz1 hz2 rfl (by decide) _ _ _ rfl (World.ownsRow_made w #[] 0 (Nat.le_refl _) (Nat.zero_le _) rfl) a l.length c (l.map nmV) rfl ?qc1 ?qc2 ?qc3 ?qc4 ?qc5 ?qc6 ?_)
    case qc1 => simp
    case qc2 =>
      intro j u hj
      exact Lib.cell?_alloc_some _ (nm_cells HL.out j u hj)
    case qc3 => exact nm_one l
    case qc4 => unfold maxLen; omega
    case qc5 => omega
    case qc6 => simp
    intro v' w1 hown hgrow hnil
    go_wp2
    go_ret
    refine ⟨v', rfl, by simpa using hown, ?_⟩
    exact ((Below.refl _ w).alloc (Nat.le_refl _) _).grown hgrow (by simp) (by intro k hk; simp [Value.ownBlock] at hk; omega)

set_option maxRecDepth 100000 in
set_option maxHeartbeats 2000000 in
theorem sl_grow (n : Nat) (w : World) (hn : n ≤ 100000) :
    Calls Tryz.prog 151 #[.slice none 0 0, .int .i64 n] w fun e w' => ∃ u, e = .returned u ∧ w'.ownsRow w.heap.size 9 1 u 0 [] ∧ Below w.heap.size w w' := by
  obtain ⟨i0, hi, hz0, hz1, hz2⟩ := info_parts infoStr
  by_cases h0 : n = 0
  · subst h0
    go_enter Tryz.func151, Tryz.ntmps151
    go_wp2
    go_ret
    exact ⟨_, rfl, World.ownsRow_nil _ _ _ _, Below.refl _ _⟩
  · have hpos : 0 < n := by omega
    have hge := grownCap_ge w n 0 9
    have hcm := grownCap_le_maxLen w n 0 9 (by unfold maxLen; omega)
    clear h0
    go_enter Tryz.func151, Tryz.ntmps151
    go_wp2_with (at_builtin; refine Lib.wpList_append_run _ rfl _ _ _ _ rfl _ _ rfl rfl _ _ (Lib.run_append_nil_zeros w 27 3 _ 9 i0 (.string ⟨#[]⟩) .i64 .i64 Tryz.underlying27 Tryz.underlying3 hi hz0 n hpos (by omega) (by omega) (by rw [hz2]; omega)) ?_)
    go_ret
    refine ⟨_, rfl, ?_, ((Below.refl _ w).drew).alloc (Nat.le_refl _) _⟩
    exact World.ownsRow_made (base := w.heap.size) w.drew _ _ (Nat.le_refl _) hcm (by rw [Array.size_append, size_zeroCells, size_zeroCells]; simp; omega)

theorem own_cells {w : World} {B : Nat} {g n c : Nat} {l : List Str} (h : w.ownsRow B 9 1 (.slice (some ⟨g, 0, none⟩) n c) l.length (l.map nmV)) : ∀ j u, (l.map nmV)[j]? = some u → w.cell? ((⟨g, 0, none⟩ : Addr).add j) = some u := h.cells rfl
theorem own_belowS {w w' : World} {B : Nat} {e : TypeId} {size n : Nat} {v : Value} {xs : List Value} (h : w.ownsRow B e size v n xs) (hb : Below w.heap.size w w') : w'.ownsRow B e size v n xs := by
  obtain ⟨hl, h0 | ⟨g, cap, cur, hv, hB, hh, r⟩⟩ := h
  · exact ⟨hl, .inl h0⟩
  · exact ⟨hl, .inr ⟨g, cap, cur, hv, hB, (hb.block g (lt_of_block hh)).trans hh, r⟩⟩

set_option maxRecDepth 100000 in
set_option maxHeartbeats 4000000 in
/-- One round of the second loop, as a law at the append: a row of names is appended to one of the call's own. -/
theorem wpList_append_names {w : World} {ops : Array Oper} {rest : List Oper} {o : Oper} {a : Act} {Q : Exit → Act → World → Prop} (hgd : o.guard = none) (s x : Operand)
    (ho : o.op = .call { callee := .builtin .append, args := #[s, x], argTypes := #[27, 27] }) {base B1 : Nat} {v v1 : Value} {n : Nat} {acc l : List Str}
    (hs : a.eval s = v) (hown : w.ownsRow base 9 1 v n (acc.map nmV)) (hx : a.eval x = v1) (h1 : w.ownsRow B1 9 1 v1 l.length (l.map nmV)) (hn : n + l.length ≤ 100000) (hb : base ≤ w.heap.size)
    (h : ∀ v' w', w'.ownsRow base 9 1 v' (n + l.length) ((acc ++ l).map nmV) → Below base w w' → wpList Tryz.prog ops Q rest (a.put o.dst v') w') : wpList Tryz.prog ops Q (o :: rest) a w := by
  obtain ⟨i0, hi, hz0, hz1, hz2⟩ := info_parts infoStr
  rcases h1.2 with ⟨rfl, h0⟩ | ⟨g, cap, cur, rfl, hB, hh, hrest⟩
  · have hl0 : l = [] := List.length_eq_zero_iff.1 h0
    subst hl0
    refine wpList_append_own_none hgd s x 27 ho base 9 i0 1 Tryz.underlying27 hi v n (acc.map nmV) hs hown hx ?_
    exact h v w (by simpa using hown) (Below.refl _ _)
  · refine wpList_append_own _ hgd s x 27 ho base 9 i0 (.string ⟨#[]⟩) 1 16 Tryz.underlying27 hi hz0 hz1 hz2 rfl (by decide) v n (acc.map nmV) hs hown ⟨g, 0, none⟩ l.length cap (l.map nmV) hx ?_ ?_ ?_ ?_ ?_ ?_ ?_
    · simp
    · exact own_cells h1
    · exact nm_one l
    · unfold maxLen; omega
    · omega
    · exact hb
    · intro v' w1 hown1 hg1 _
      refine h v' w1 (by rw [List.map_append]; exact hown1) ((Below.refl _ _).grown hg1 hb (fun j hj => (hown.lt j hj).1))

set_option maxRecDepth 100000 in
set_option maxHeartbeats 4000000 in
theorem sl_concat (u1 u2 : Value) (B1 B2 g : Nat) (l1 l2 : List Str) (w : World) (h1 : w.ownsRow B1 9 1 u1 l1.length (l1.map nmV)) (h2 : w.ownsRow B2 9 1 u2 l2.length (l2.map nmV)) (hm1 : l1.length ≤ 1000) (hm2 : l2.length ≤ 1000)
    (e0 : w.cell? ⟨g, 0, none⟩ = some u1) (e1 : w.cell? ⟨g, 1, none⟩ = some u2) :
    Calls Tryz.prog 128 #[.slice (some ⟨g, 0, none⟩) 2 2] w fun e w' => ∃ u, e = .returned u ∧ w'.ownsRow w.heap.size 9 1 u (l1.length + l2.length) ((l1 ++ l2).map nmV) ∧ Below w.heap.size w w' := by
  obtain ⟨A1, c1, hu1, _, _⟩ := own_names h1
  obtain ⟨A2, c2, hu2, _, _⟩ := own_names h2
  rw [hu1] at e0 h1
  rw [hu2] at e1 h2
  clear hu1 hu2
  have H1 := hid h1
  have H2 := hid h2
  have hgl : g < w.heap.size := cell_lt e0
  clear h1 h2
  go_enter Tryz.func128, Tryz.ntmps128
  go_wp2
  go_loop [3, 11] (fun z i => ∃ k m : Nat, k ≤ 2 ∧ i = .int .i64 k ∧ z = .int .i64 m ∧ m ≤ k * 1000) (fun _ i => 2 - (intOf i).toNat)
  case atStart => exact ⟨0, 0, by omega, rfl, rfl, by omega⟩
  case round =>
    obtain ⟨k, m, hk, rfl, rfl, hm⟩ := hrel
    by_cases hlt : k < 2
    · by_cases hk0 : k = 0
      · subst hk0
        go_wp2
        go_round
        case rel => exact ⟨1, m + l1.length, by omega, by go_num, by go_num, by omega⟩
        case measure => simp [intOf]
      · have hk1 : k = 1 := by omega
        subst hk1
        go_wp2
        go_round
        case rel => exact ⟨2, m + l2.length, by omega, by go_num, by go_num, by omega⟩
        case measure => simp [intOf]
    · have hk2 : k = 2 := by omega
      subst hk2
      have H3 := fun W => hid (sl_grow m W (by omega))
      go_wp2_with fail
      refine (H3 _).out.mono ?_
      rintro e w1 ⟨u, rfl, hown, b1⟩
      have HO := hid hown
      clear hown H3
      go_wp2
      go_loopw [6, 27] (fun u i wr => ∃ (k : Nat) (acc : List Str), k ≤ 2 ∧ i = .int .i64 k ∧ Hid (wr.ownsRow w.heap.size 9 1 u acc.length (acc.map nmV)) ∧ Hid (acc = (([l1, l2] : List (List Str)).take k).flatten) ∧ acc.length ≤ k * 1000 ∧ Below w.heap.size w wr) (fun _ i _ => 2 - (intOf i).toNat)
      case atStart => exact ⟨0, [], by omega, rfl, HO, hid rfl, by simp, b1⟩
      case round =>
        obtain ⟨j, acc, hj, rfl, HR, HE, hal, hbel⟩ := hrel
        have hsz := hbel.size
        clear HO
        have f0 := cell_keep hbel e0
        have f1 := cell_keep hbel e1
        have K1 := hid (own_belowS H1.out hbel)
        have K2 := hid (own_belowS H2.out hbel)
        by_cases hjt : j < 2
        · by_cases hj0 : j = 0
          · subst hj0
            have he : acc = [] := by rw [HE.out]; rfl
            subst he
            clear HE
            go_wp2_with (at_builtin; refine wpList_append_names rfl _ _ rfl rfl HR.out rfl K1.out (by simp; omega) hsz ?_; intro v3 w3 hown3 b3)
            have HO3 := hid hown3
            have hb3 := hbel.trans b3
            clear hown3 b3
            go_roundw
            case rel => exact ⟨1, l1, by omega, rfl, hid (by simpa using HO3.out), hid (by simp), by omega, hb3⟩
            case measure => simp [intOf]
          · have hj1 : j = 1 := by omega
            subst hj1
            have he : acc = l1 := by rw [HE.out]; simp
            subst he
            clear HE
            go_wp2_with (at_builtin; refine wpList_append_names rfl _ _ rfl rfl HR.out rfl K2.out (by omega) hsz ?_; intro v3 w3 hown3 b3)
            have HO3 := hid hown3
            have hb3 := hbel.trans b3
            clear hown3 b3
            go_roundw
            case rel => exact ⟨2, acc ++ l2, by omega, rfl, hid (by rw [List.length_append]; exact HO3.out), hid (by simp), by simp; omega, hb3⟩
            case measure => simp [intOf]
        · have hj2 : j = 2 := by omega
          subst hj2
          have he : acc = l1 ++ l2 := by rw [HE.out]; simp
          subst he
          clear HE
          go_wp2
          go_ret
          exact ⟨_, rfl, by have := HR.out; rw [List.length_append] at this; exact this, hbel⟩
end
end Go.Proofs.YtjhnopnppimnhaaGreatDoor
