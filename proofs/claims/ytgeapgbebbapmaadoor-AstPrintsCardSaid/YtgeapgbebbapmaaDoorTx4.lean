/-
  WALK: the document's ruleText (layer 19).
-/
import Derived.Test.YtgeapgbebbapmaaDoorTx3
import Derived.Test.YtgeapgbebbapmaaDoorRfs
namespace Go.Proofs.YtgeapgbebbapmaaDoor
open Go.RowKit

def condT (c : Cnd) : Str := c.v ++ [32] ++ opS c.op ++ [32] ++ textL c.c
theorem condS_T (c : Cnd) : condS c = comS ++ condT c := by unfold condS condT; simp
theorem parts_join {r : Rul} (h : r.atoms ≠ []) : joinS comS (r.atoms.map atomS ++ r.conds.map condT) = ruleS r := by
  unfold ruleS
  have key : ∀ (l : List Str) (m : List Cnd), l ≠ [] → joinS comS (l ++ m.map condT) = joinS comS l ++ m.flatMap condS := by
    intro l m hl
    cases l with
    | nil => exact absurd rfl hl
    | cons x l =>
      simp only [List.cons_append, joinS, List.flatMap_append, List.append_assoc]
      rw [List.flatMap_map, show condS = fun c => comS ++ condT c from funext condS_T]
  exact key _ _ (by simpa using h)
def opsL : List Str := [[61], [33, 61], [60], [60, 61], [62], [62, 61]]
theorem ops_at {w : World} {g : Nat} (hn : w.heap[g]? = some (.cells #[.string ⟨#[61]⟩, .string ⟨#[33, 61]⟩, .string ⟨#[60]⟩, .string ⟨#[60, 61]⟩, .string ⟨#[62]⟩, .string ⟨#[62, 61]⟩] 9)) (o : Nat) (h : o ≤ 5) : w.cell? ⟨g, o, none⟩ = some (.string ⟨(opS o).toArray⟩) := by
  have : o = 0 ∨ o = 1 ∨ o = 2 ∨ o = 3 ∨ o = 4 ∨ o = 5 := by omega
  rcases this with rfl | rfl | rfl | rfl | rfl | rfl <;> exact coh hn rfl
theorem atomS_two (a : Atm) : atomS a ≠ [61] := by
  intro e
  have := congrArg List.length e
  unfold atomS at this
  simp only [List.length_append, List.length_cons, List.length_nil] at this
  omega
/-- An own row that begins with another string than a block lies elsewhere. -/
theorem own_off {w : World} {B g : Nat} {v : Value} {P : List Str} {s t : Str} {T : TypeId} {cs : Array Value} {fz : Nat × Nat} (h : w.ownsRow B 9 1 v P.length (P.map nmV)) (hp : P[0]? = some s) (hg : w.heap[g]? = some (.cells cs T fz)) (hc : cs[0]? = some (.string ⟨t.toArray⟩)) (hne : s ≠ t) : v.ownBlock ≠ some g := by
  intro e
  rcases h.2 with ⟨rfl, _⟩ | ⟨g', cap, cur, rfl, hB, hh, hrest⟩
  · simp [Value.ownBlock] at e
  · simp [Value.ownBlock] at e
    subst e
    have hl : 0 < P.length := (List.getElem?_eq_some_iff.1 hp).1
    have h1 := h.cellAt 0 (by omega)
    rw [Lib.cell_of_heap hg, hc, List.getElem?_map, hp] at h1
    simp only [Option.map_some, nmV, Option.some.injEq, Value.string.injEq] at h1
    exact hne (by simpa using (congrArg (fun x : ByteArray => x.data.toList) h1).symm)

set_option maxRecDepth 100000 in
set_option maxHeartbeats 16000000 in
theorem ref_ruleText (r : Rul) (A C : Option Addr) (ca cc : Nat) (w : World) (ha : AtmsAt w A r.atoms) (hcn : CndsAt w C r.conds) (hok : RulOk r) (hne : r.atoms ≠ []) (hop : ∀ c ∈ r.conds, 0 ≤ c.op ∧ c.op ≤ 5) {x : Str} (hx : ruleS r = x) :
    Calls Tryd.prog 39 #[.agg #[.slice A r.atoms.length ca, .slice C r.conds.length cc]] w fun e w' => e = .returned (.string ⟨x.toArray⟩) ∧ Below w.heap.size w w' := by
  have HX : Hid (joinS comS (r.atoms.map atomS ++ r.conds.map condT) = x) := hid ((parts_join hne).trans hx)
  have HA := hid ha
  have HC := hid hcn
  have HOK := hid hok
  have HOP := hid hop
  have hma : r.atoms.length ≤ 8 := hok.1
  have hmc : r.conds.length ≤ 8 := hok.2.2.1
  have hpos : 0 < r.atoms.length := List.length_pos_iff.2 hne
  obtain ⟨i0, hi, hz0, hz1, hz2⟩ := info_parts infoStr
  have HB0 : Hid (Below (w.heap.size + 1) (w.alloc (.cells #[.slice A r.atoms.length ca, .slice C r.conds.length cc] 49)) (w.alloc (.cells #[.slice A r.atoms.length ca, .slice C r.conds.length cc] 49))) := hid (Below.refl _ _)
  have HO0 : Hid ((w.alloc (.cells #[.slice A r.atoms.length ca, .slice C r.conds.length cc] 49)).ownsRow (w.heap.size + 1) 9 1 (.slice none 0 0) ((r.atoms.take 0).map atomS).length (((r.atoms.take 0).map atomS).map nmV)) := hid (World.ownsRow_nil _ _ _ _)
  clear hx ha hcn hok hne hop
  go_enter Tryd.func39, Tryd.ntmps39
  go_wp2
  go_loopw [4, 3] (fun i u wr => ∃ (k : Nat) (AO : Option Addr) (cO : Nat), k ≤ r.atoms.length ∧ i = .int .i64 k ∧ u = .slice AO k cO ∧ Hid (wr.ownsRow (w.heap.size + 1) 9 1 (.slice AO k cO) ((r.atoms.take k).map atomS).length (((r.atoms.take k).map atomS).map nmV)) ∧ Hid (Below (w.heap.size + 1) (w.alloc (.cells #[.slice A r.atoms.length ca, .slice C r.conds.length cc] 49)) wr)) (fun i _ _ => r.atoms.length - (intOf i).toNat)
  case atStart => exact ⟨0, none, 0, by omega, rfl, rfl, HO0, HB0⟩
  case round =>
    obtain ⟨k, AO, cO, hk, rfl, rfl, HO, HB⟩ := hrel
    clear HO0 HB0
    by_cases hlt : k < r.atoms.length
    · obtain ⟨ba, oa, rfl, hc⟩ := HA.out (by omega)
      obtain ⟨T, cT, c0, c1, c2, hT, hcap, hmt⟩ := hc k hlt
      have haok := HOK.out.2.1 _ (List.getElem_mem hlt)
      have hPk : (r.atoms.take (k + 1)).map atomS = (r.atoms.take k).map atomS ++ [atomS r.atoms[k]] := by rw [List.take_succ_eq_append_getElem hlt, List.map_append]; rfl
      obtain ⟨⟨ng, rel, ts⟩, ea⟩ : ∃ a, r.atoms[k] = a := ⟨_, rfl⟩
      rw [ea] at c0 c1 c2 hT haok hPk
      obtain ⟨ok1, ok2, ok3⟩ := haok
      simp only at c0 c1 c2 hT ok1 ok2 ok3
      obtain ⟨RL, hR, hRd⟩ : ∃ Y : ByteArray, (⟨rel.toArray⟩ : ByteArray) = Y ∧ Y.data.toList = rel := ⟨_, rfl, rfl⟩
      have hRb : RL.size ≤ 16 := by
        have h1 : RL.size = rel.length := by rw [← hRd]; simp
        omega
      rw [hR] at c1
      have HT := hid hT
      have C0 := hid c0
      have C1 := hid c1
      have C2 := hid c2
      have HRd := hid hRd
      have HPk := hid hPk
      have OK3 := hid ok3
      obtain ⟨d0, d1, dsz, dbel⟩ := rul_cells19 HB.out
      have HT0 : Hid (wr.ownsRow wr.heap.size 9 1 (.slice none 0 0) ((ts.take 0).map termS).length (((ts.take 0).map termS).map nmV)) := hid (World.ownsRow_nil _ _ _ _)
      obtain ⟨wo, rfl⟩ : ∃ wo : World, wo = wr := ⟨_, rfl⟩
      have HW0 : Hid (Below wo.heap.size wo wo) := hid (Below.refl _ _)
      clear hc c0 c1 c2 hT hR hRd ea hPk ok3 d1
      go_wp2
      clear d0 dbel
      go_loopw [6, 5] (fun i u wx => ∃ (j : Nat) (AT : Option Addr) (cT2 : Nat), j ≤ ts.length ∧ i = .int .i64 j ∧ u = .slice AT j cT2 ∧ Hid (wx.ownsRow wo.heap.size 9 1 (.slice AT j cT2) ((ts.take j).map termS).length (((ts.take j).map termS).map nmV)) ∧ Hid (Below wo.heap.size wo wx)) (fun i _ _ => ts.length - (intOf i).toNat)
      case atStart => exact ⟨0, none, 0, by omega, rfl, rfl, HT0, HW0⟩
      case round =>
        clear HT0 HW0
        obtain ⟨j, AT, cT2, hj, rfl, rfl, HTO, HW⟩ := hrel
        have HBx := hid (HB.out.trans (HW.out.mono dsz))
        obtain ⟨d0, d1, dsz1, dbel⟩ := rul_cells19 HBx.out
        have c2 := cell_keep dbel C2.out
        by_cases hlt2 : j < ts.length
        · obtain ⟨bt, o2, rfl, hc2⟩ := HT.out (by omega)
          obtain ⟨f0, f1, f2, f3⟩ := hc2 j hlt2
          replace f0 := cell_keep dbel f0
          replace f1 := cell_keep dbel f1
          replace f2 := cell_keep dbel f2
          replace f3 := cell_keep dbel f3
          have htok := OK3.out _ (List.getElem_mem hlt2)
          have hTk : (ts.take (j + 1)).map termS = (ts.take j).map termS ++ [termS ts[j]] := by rw [List.take_succ_eq_append_getElem hlt2, List.map_append]; rfl
          have hlj : ((ts.take j).map termS).length = j := by simp only [List.length_map, List.length_take]; omega
          obtain ⟨⟨tv, ⟨z3, z4, z5⟩⟩, et⟩ : ∃ t, ts[j] = t := ⟨_, rfl⟩
          rw [et] at f0 f1 f2 f3 htok hTk
          obtain ⟨tk1, tk2⟩ := htok
          simp only at f0 f1 f2 f3 tk1 tk2
          obtain ⟨Z, hZ, hZd⟩ : ∃ Y : ByteArray, (⟨tv.toArray⟩ : ByteArray) = Y ∧ Y.data.toList = tv := ⟨_, rfl, rfl⟩
          rw [hZ] at f0
          have HZl : Hid (Z.toList = tv) := hid (by rw [Lib.toList_data]; exact hZd)
          have HZ := hid hZ
          have HWT := hid (HW.out.trans ((below_one wr (.cells #[.string Z, .int .i64 z3, .int .i64 z4, .string z5] 56)).mono HW.out.size))
          have HTT := hid (own_below HTO.out (below_one wr (.cells #[.string Z, .int .i64 z3, .int .i64 z4, .string z5] 56)))
          have hTB := heap_alloc_new wr (.cells #[.string Z, .int .i64 z3, .int .i64 z4, .string z5] 56)
          have HTB := hid hTB
          have hbs : wo.heap.size ≤ (wr.alloc (.cells #[.string Z, .int .i64 z3, .int .i64 z4, .string z5] 56)).heap.size := HWT.out.size
          obtain ⟨wy, rfl⟩ : ∃ wy : World, wy = wr := ⟨_, rfl⟩
          clear hc2 et hZ hZd hTB HTO HW HBx
          rw [hlj] at HTT
          by_cases hv : tv = []
          · have hze : Z.toList.isEmpty = true := by rw [HZl.out, hv]; rfl
            obtain ⟨hval, hI⟩ := tk2 hv
            have CL := fun W => hid (ref_literal ⟨z3, z4, z5⟩ W hval hI rfl)
            have hts : termS ⟨tv, ⟨z3, z4, z5⟩⟩ = textL ⟨z3, z4, z5⟩ := by unfold termS; rw [if_pos hv]
            rw [hts] at hTk
            obtain ⟨tx, etx⟩ : ∃ tx, textL ⟨z3, z4, z5⟩ = tx := ⟨_, rfl⟩
            rw [etx] at hTk CL
            have HTk := hid hTk
            clear hts hTk etx hv hval hI tk1 tk2 HZl HZ
            go_wp2_with fail
            refine (CL _).out.mono ?_
            rintro e w2 ⟨rfl, b2⟩
            have HW2 := hid (HWT.out.trans (b2.mono hbs))
            have HT2 := hid (own_below HTT.out b2)
            have hbs2 := Nat.le_trans hbs b2.size
            clear CL b2 HWT HTT HTB d0 d1 f0 f1 f2 f3 c2
            go_wp2_with (at_builtin; refine wpList_append_new2 Tryd.underlying22 hi hz0 hz1 hz2 rfl (by decide) (by decide) rfl rfl rfl HT2.out rfl (by simp) rfl rfl (by omega) hbs2 ?_; intro v3 w3 hown3 hg3; obtain ⟨g3, cap3, rfl⟩ := own_slice1 hown3)
            have hl1 : ((ts.take (j + 1)).map termS).length = j + 1 := by simp only [List.length_map, List.length_take]; omega
            have HO3 : Hid (w3.ownsRow wo.heap.size 9 1 (.slice (some ⟨g3, 0, none⟩) (j + 1) cap3) ((ts.take (j + 1)).map termS).length (((ts.take (j + 1)).map termS).map nmV)) := hid (by
              rw [hl1, HTk.out, List.map_append, List.map_singleton]
              exact hown3)
            have HW3 := hid (HW2.out.trans (grown_below HT2.out hg3 hbs2))
            clear HT2 HW2 hown3 hg3 HTk hl1
            go_roundw
            case rel => exact ⟨j + 1, _, _, by omega, by go_num, rfl, HO3, HW3⟩
            case measure => simp [intOf]; omega
          · have hze : Z.toList.isEmpty = false := by
              rw [HZl.out]
              cases h : tv with
              | nil => exact absurd h hv
              | cons _ _ => rfl
            have hts : termS ⟨tv, ⟨z3, z4, z5⟩⟩ = tv := by unfold termS; rw [if_neg hv]
            rw [hts] at hTk
            have HTk := hid hTk
            have HZv : Hid (nmV tv = .string Z) := hid (by rw [← HZ.out]; rfl)
            clear hts hTk hv tk1 tk2 HZl HZ
            have e0 := coh HTB.out (o := 0) rfl
            go_wp2_with (at_builtin; refine wpList_append_new2 Tryd.underlying22 hi hz0 hz1 hz2 rfl (by decide) (by decide) rfl rfl rfl HTT.out rfl (by simp) rfl rfl (by omega) hbs ?_; intro v3 w3 hown3 hg3; obtain ⟨g3, cap3, rfl⟩ := own_slice1 hown3)
            have hl1 : ((ts.take (j + 1)).map termS).length = j + 1 := by simp only [List.length_map, List.length_take]; omega
            have HO3 : Hid (w3.ownsRow wo.heap.size 9 1 (.slice (some ⟨g3, 0, none⟩) (j + 1) cap3) ((ts.take (j + 1)).map termS).length (((ts.take (j + 1)).map termS).map nmV)) := hid (by
              rw [hl1, HTk.out, List.map_append, List.map_singleton, HZv.out]
              exact hown3)
            have HW3 := hid (HWT.out.trans (grown_below HTT.out hg3 hbs))
            clear HTT HWT hown3 hg3 HTk hl1 HTB e0 d0 d1 f0 f1 f2 f3 c2
            go_roundw
            case rel => exact ⟨j + 1, _, _, by omega, by go_num, rfl, HO3, HW3⟩
            case measure => simp [intOf]; omega
        · have hje : j = ts.length := by omega
          subst hje
          have hTO := HTO.out
          rw [List.take_length] at hTO
          have hml : (ts.map termS).length = ts.length := List.length_map ..
          obtain ⟨_, _, hu, hAT, _⟩ := own_names hTO
          rw [hml] at hu
          injection hu with e1 _ e3
          subst e1 e3
          have CJ := fun (p : BelowBy wr) => hid (ref_join AT cT2 (ts.map termS) ⟨#[44, 32]⟩ p.to (hAT.below p.le) (by rw [hml]; omega) (fun v hv => by
            obtain ⟨t, ht, rfl⟩ := List.mem_map.1 hv
            have := termS_len (OK3.out t ht)
            omega) (s := comS) rfl (by decide) rfl)
          have hjl := join_len termS comS 100 ts fun t ht => termS_len (OK3.out t ht)
          rw [hml] at CJ
          obtain ⟨jx, ej⟩ : ∃ s, joinS comS (ts.map termS) = s := ⟨_, rfl⟩
          rw [ej] at CJ hjl
          have hjl2 : jx.length ≤ 612 := by
            have hc : comS.length = 2 := rfl
            rw [hc] at hjl
            omega
          obtain ⟨J, hJ, hJd⟩ : ∃ Y : ByteArray, (⟨jx.toArray⟩ : ByteArray) = Y ∧ Y.data.toList = jx := ⟨_, rfl, rfl⟩
          have hJb : J.size ≤ 612 := by
            have h1 : J.size = jx.length := by rw [← hJd]; simp
            omega
          rw [hJ] at CJ
          have HAT : Hid (atomS ⟨ng, rel, ts⟩ = (if ng = true then [110, 111, 116, 32] else []) ++ (((rel ++ [40]) ++ jx) ++ [41])) := hid (by unfold atomS; simp only [ej, List.append_assoc])
          have HJd := hid hJd
          have c0 := cell_keep dbel C0.out
          have c1 := cell_keep dbel C1.out
          have HPO := hid (own_below HO.out HW.out)
          have D0 := fun p : BelowBy wr => by_cell d0 p
          have K1 := fun p : BelowBy wr => by_cell c1 p
          have hS1 : ¬ 9223372036854775807 < RL.size + 1 := by omega
          have hS2 : ¬ 9223372036854775807 < RL.size + 1 + J.size := by omega
          have hS3 : ¬ 9223372036854775807 < RL.size + 1 + J.size + 1 := by omega
          clear hTO hml hAT hjl ej hJ hJd HTO HO hjl2 HW
          go_wp2
          refine wp_region_below (by kernel_rfl) (by kernel_rfl) ?_
          repeat (go_big_quiet_step (first | with_reducible exact calls_by (CJ _).out))
          refine wpQuiet_nil ?_
          rintro wq ⟨⟨wqx, kq⟩, rfl⟩
          have HBq := hid (HBx.out.trans (kq.mono dsz1))
          have HPq := hid (own_below HPO.out kq)
          obtain ⟨d0q, d1q, dszq, dbelq⟩ := rul_cells19 HBq.out
          have c0q := cell_keep kq c0
          clear D0 K1 CJ hS1 hS2 hS3 HBx HPO kq c0 c1 c2 d0 d1 dbel
          have hlk : ((r.atoms.take k).map atomS).length = k := by simp only [List.length_map, List.length_take]; omega
          rw [hlk] at HPq
          have hl1 : ((r.atoms.take (k + 1)).map atomS).length = k + 1 := by simp only [List.length_map, List.length_take]; omega
          cases ng
          · have hts : Value.string (RL ++ ⟨#[40]⟩ ++ J ++ ⟨#[41]⟩) = nmV (atomS ⟨false, rel, ts⟩) := by
              have e := HAT.out
              simp only [Bool.false_eq_true, if_false, List.nil_append] at e
              rw [e]
              exact str_of (cat_of (cat_of (cat_of HRd.out rfl) HJd.out) rfl)
            have HTS := hid hts
            clear hts HAT HRd HJd
            go_wp2_with (at_builtin; refine wpList_append_new2 Tryd.underlying22 hi hz0 hz1 hz2 rfl (by decide) (by decide) rfl rfl rfl HPq.out rfl (by simp) rfl rfl (by omega) dszq ?_; intro v3 w3 hown3 hg3; obtain ⟨g3, cap3, rfl⟩ := own_slice1 hown3)
            have HO3 : Hid (w3.ownsRow (w.heap.size + 1) 9 1 (.slice (some ⟨g3, 0, none⟩) (k + 1) cap3) ((r.atoms.take (k + 1)).map atomS).length (((r.atoms.take (k + 1)).map atomS).map nmV)) := hid (by
              rw [hl1, HPk.out, List.map_append, List.map_singleton, ← HTS.out]
              exact hown3)
            have HB3 := hid (HBq.out.trans (grown_below HPq.out hg3 dszq))
            clear HPq HBq hown3 hg3 HPk hl1 HTS d0q d1q c0q dbelq
            go_roundw
            case rel => exact ⟨k + 1, _, _, by omega, by go_num, rfl, HO3, HB3⟩
            case measure => simp [intOf]; omega
          · have hts : Value.string (⟨#[110, 111, 116, 32]⟩ ++ (RL ++ ⟨#[40]⟩ ++ J ++ ⟨#[41]⟩)) = nmV (atomS ⟨true, rel, ts⟩) := by
              have e := HAT.out
              simp only [if_true] at e
              rw [e]
              exact str_of (cat_of (b := ((rel ++ [40]) ++ jx) ++ [41]) rfl (cat_of (cat_of (cat_of HRd.out rfl) HJd.out) rfl))
            have HTS := hid hts
            clear hts HAT HRd HJd
            go_wp2_with (at_builtin; refine wpList_append_new2 Tryd.underlying22 hi hz0 hz1 hz2 rfl (by decide) (by decide) rfl rfl rfl HPq.out rfl (by simp) rfl rfl (by omega) dszq ?_; intro v3 w3 hown3 hg3; obtain ⟨g3, cap3, rfl⟩ := own_slice1 hown3)
            have HO3 : Hid (w3.ownsRow (w.heap.size + 1) 9 1 (.slice (some ⟨g3, 0, none⟩) (k + 1) cap3) ((r.atoms.take (k + 1)).map atomS).length (((r.atoms.take (k + 1)).map atomS).map nmV)) := hid (by
              rw [hl1, HPk.out, List.map_append, List.map_singleton, ← HTS.out]
              exact hown3)
            have HB3 := hid (HBq.out.trans (grown_below HPq.out hg3 dszq))
            clear HPq HBq hown3 hg3 HPk hl1 HTS d0q d1q c0q dbelq
            go_roundw
            case rel => exact ⟨k + 1, _, _, by omega, by go_num, rfl, HO3, HB3⟩
            case measure => simp [intOf]; omega
    · have hend : k = r.atoms.length := by omega
      subst hend
      have hPa : (r.atoms.take r.atoms.length).map atomS = r.atoms.map atomS := by rw [List.take_length]
      rw [hPa] at HO
      obtain ⟨d0, d1, dsz, dbel⟩ := rul_cells19 HB.out
      have hp0 : (r.atoms.map atomS)[0]? = some (atomS r.atoms[0]) := by simp [hpos]
      have hp1 := atomS_two r.atoms[0]
      obtain ⟨p0, ep0⟩ : ∃ p, atomS r.atoms[0] = p := ⟨_, rfl⟩
      rw [ep0] at hp0 hp1
      have HP0 : Hid (∀ j, ((r.atoms.map atomS ++ (r.conds.take j).map condT))[0]? = some p0) := hid fun j => by rw [List.getElem?_append_left (by simpa using hpos)]; exact hp0
      have hml : (r.atoms.map atomS).length = r.atoms.length := List.length_map ..
      rw [hml] at HO
      have HO1 : Hid ((wr.alloc (.cells #[.string ⟨#[61]⟩, .string ⟨#[33, 61]⟩, .string ⟨#[60]⟩, .string ⟨#[60, 61]⟩, .string ⟨#[62]⟩, .string ⟨#[62, 61]⟩] 9)).ownsRow (w.heap.size + 1) 9 1 (.slice AO r.atoms.length cO) (r.atoms.map atomS ++ (r.conds.take 0).map condT).length ((r.atoms.map atomS ++ (r.conds.take 0).map condT).map nmV)) := hid (by
        rw [List.take_zero, List.map_nil, List.append_nil, hml]
        exact own_below HO.out (below_one wr (.cells #[.string ⟨#[61]⟩, .string ⟨#[33, 61]⟩, .string ⟨#[60]⟩, .string ⟨#[60, 61]⟩, .string ⟨#[62]⟩, .string ⟨#[62, 61]⟩] 9)))
      have HQ1 := hid (heap_alloc_new wr (.cells #[.string ⟨#[61]⟩, .string ⟨#[33, 61]⟩, .string ⟨#[60]⟩, .string ⟨#[60, 61]⟩, .string ⟨#[62]⟩, .string ⟨#[62, 61]⟩] 9))
      have HB1 := hid (HB.out.alloc dsz (.cells #[.string ⟨#[61]⟩, .string ⟨#[33, 61]⟩, .string ⟨#[60]⟩, .string ⟨#[60, 61]⟩, .string ⟨#[62]⟩, .string ⟨#[62, 61]⟩] 9))
      obtain ⟨wo, rfl⟩ : ∃ wo : World, wo = wr := ⟨_, rfl⟩
      clear hPa hp0 ep0 HO HB hml dbel
      go_wp2
      clear d0 d1
      go_loopw [10, 3] (fun i u wx => ∃ (j : Nat) (AO : Option Addr) (cO : Nat), j ≤ r.conds.length ∧ i = .int .i64 j ∧ u = .slice AO (r.atoms.length + j) cO ∧ Hid (wx.ownsRow (w.heap.size + 1) 9 1 (.slice AO (r.atoms.length + j) cO) (r.atoms.map atomS ++ (r.conds.take j).map condT).length ((r.atoms.map atomS ++ (r.conds.take j).map condT).map nmV)) ∧ Hid (wx.heap[wo.heap.size]? = some (.cells #[.string ⟨#[61]⟩, .string ⟨#[33, 61]⟩, .string ⟨#[60]⟩, .string ⟨#[60, 61]⟩, .string ⟨#[62]⟩, .string ⟨#[62, 61]⟩] 9)) ∧ Hid (Below (w.heap.size + 1) (w.alloc (.cells #[.slice A r.atoms.length ca, .slice C r.conds.length cc] 49)) wx)) (fun i _ _ => r.conds.length - (intOf i).toNat)
      case atStart => exact ⟨0, AO, cO, by omega, rfl, rfl, HO1, HQ1, HB1⟩
      case round =>
        clear HO1 HQ1 HB1
        obtain ⟨j, AO, cO, hj, rfl, rfl, HO, HQ, HB⟩ := hrel
        obtain ⟨d0, d1, dsz1, dbel⟩ := rul_cells19 HB.out
        have hlj : (r.atoms.map atomS ++ (r.conds.take j).map condT).length = r.atoms.length + j := by simp only [List.length_append, List.length_map, List.length_take]; omega
        by_cases hlt : j < r.conds.length
        · obtain ⟨bc, o, rfl, hc⟩ := HC.out (by omega)
          obtain ⟨c0, c1, c2, c3, c4⟩ := hc j hlt
          have hcok := HOK.out.2.2.2 _ (List.getElem_mem hlt)
          have hopk := HOP.out _ (List.getElem_mem hlt)
          have hPk : r.atoms.map atomS ++ (r.conds.take (j + 1)).map condT = (r.atoms.map atomS ++ (r.conds.take j).map condT) ++ [condT r.conds[j]] := by rw [List.take_succ_eq_append_getElem hlt, List.map_append, List.append_assoc]; rfl
          obtain ⟨⟨cv, op, ⟨z3, z4, z5⟩⟩, ec⟩ : ∃ c, r.conds[j] = c := ⟨_, rfl⟩
          rw [ec] at c0 c1 c2 c3 c4 hcok hopk hPk
          obtain ⟨hv16, hval, hI⟩ := hcok
          simp only at c0 c1 c2 c3 c4 hopk hv16 hval hI
          obtain ⟨on, rfl⟩ : ∃ n : Nat, op = (n : Int) := ⟨op.toNat, by omega⟩
          have hon : on ≤ 5 := by omega
          obtain ⟨Z, hZ, hZd⟩ : ∃ Y : ByteArray, (⟨cv.toArray⟩ : ByteArray) = Y ∧ Y.data.toList = cv := ⟨_, rfl, rfl⟩
          have hZb : Z.size ≤ 16 := by
            have h1 : Z.size = cv.length := by rw [← hZd]; simp
            omega
          rw [hZ] at c0
          have CL := fun W => hid (ref_literal ⟨z3, z4, z5⟩ W hval hI rfl)
          obtain ⟨TX, hTX, hTXd⟩ : ∃ Y : ByteArray, (⟨(textL ⟨z3, z4, z5⟩).toArray⟩ : ByteArray) = Y ∧ Y.data.toList = textL ⟨z3, z4, z5⟩ := ⟨_, rfl, rfl⟩
          have hTXb : TX.size ≤ 100 := by
            have h1 : TX.size = (textL ⟨z3, z4, z5⟩).length := by rw [← hTXd]; simp
            have := (textL_small hval hI).2
            omega
          rw [hTX] at CL
          have q6 := ops_at HQ.out on hon
          obtain ⟨OB, hOB, hOBd⟩ : ∃ Y : ByteArray, (⟨(opS on).toArray⟩ : ByteArray) = Y ∧ Y.data.toList = opS on := ⟨_, rfl, rfl⟩
          have hOBb : OB.size ≤ 2 := by
            have h1 : OB.size = (opS on).length := by rw [← hOBd]; simp
            have := opS_len on
            omega
          rw [hOB] at q6
          have HOB := hid hOB
          have HTS : Hid (Value.string (Z ++ ⟨#[32]⟩ ++ OB ++ ⟨#[32]⟩ ++ TX) = nmV (condT ⟨cv, on, ⟨z3, z4, z5⟩⟩)) := hid (by
            unfold condT
            exact str_of (cat_of (cat_of (cat_of (cat_of hZd rfl) hOBd) rfl) hTXd))
          have E0 := hid c0
          have E1 := hid c1
          have E2 := hid c2
          have E3 := hid c3
          have E4 := hid c4
          have e0 := cell_keep dbel c0
          have e1 := cell_keep dbel c1
          have e2 := cell_keep dbel c2
          have e3 := cell_keep dbel c3
          have e4 := cell_keep dbel c4
          have HPk := hid hPk
          have hS1 : ¬ 9223372036854775807 < Z.size + 1 := by omega
          have hS2 : ¬ 9223372036854775807 < Z.size + 1 + OB.size := by omega
          have hS3 : ¬ 9223372036854775807 < Z.size + 1 + OB.size + 1 := by omega
          have hS4 : ¬ 9223372036854775807 < Z.size + 1 + OB.size + 1 + TX.size := by omega
          have hon6 : on < 6 := by omega
          have hoi : (on : Int) < 6 := by omega
          have hoj : (0 : Int) ≤ (on : Int) := by omega
          have hcb : (j : Int) < (r.conds.length : Int) := by omega
          rw [hlj] at HO
          have hnb : ∀ (W : World) (v : Value), W.ownsRow (w.heap.size + 1) 9 1 v (r.atoms.map atomS ++ (r.conds.take j).map condT).length ((r.atoms.map atomS ++ (r.conds.take j).map condT).map nmV) → W.heap[wo.heap.size]? = some (.cells #[.string ⟨#[61]⟩, .string ⟨#[33, 61]⟩, .string ⟨#[60]⟩, .string ⟨#[60, 61]⟩, .string ⟨#[62]⟩, .string ⟨#[62, 61]⟩] 9) → v.ownBlock ≠ some wo.heap.size := fun W v h1 h2 => own_off h1 (HP0.out j) h2 rfl hp1
          rw [hlj] at hnb
          have HNB := hid hnb
          clear hc c0 c1 c2 c3 c4 ec hPk hZ hZd hTX hTXd hOB hOBd hval hI hopk hv16 hnb hon d0
          go_wp2
          go_region_held3 (fun w' => w'.cell? ⟨w.heap.size, 1, none⟩ = some (.slice (some ⟨bc, o, none⟩) r.conds.length cc) ∧ w'.cell? ⟨bc, o + j * 5, none⟩ = some (.string Z) ∧ w'.cell? ⟨bc, o + j * 5 + 1, none⟩ = some (.int .i64 on) ∧ w'.cell? ⟨bc, o + j * 5 + 2, none⟩ = some (.int .i64 z3) ∧ w'.cell? ⟨bc, o + j * 5 + 3, none⟩ = some (.int .i64 z4) ∧ w'.cell? ⟨bc, o + j * 5 + 4, none⟩ = some (.string z5) ∧ w'.cell? ⟨wo.heap.size, on, none⟩ = some (.string OB))
            (first | exact ⟨d1, e0, e1, e2, e3, e4, q6⟩ | exact ⟨n1, f0, f1, f2, f3, f4, n6⟩ | exact ⟨cell_keep (below_one _ _) n1, cell_keep (below_one _ _) f0, cell_keep (below_one _ _) f1, cell_keep (below_one _ _) f2, cell_keep (below_one _ _) f3, cell_keep (below_one _ _) f4, cell_keep (below_one _ _) n6⟩ | exact ⟨m1, h0, h1, h2, h3, h4, m6⟩ | assumption | fail)
            (first
              | (go_at_call 66; refine (CL _).out.mono ?_; rintro e w5 ⟨rfl, b5⟩; have n1 := cell_keep b5 d1; have f0 := cell_keep b5 e0; have f1 := cell_keep b5 e1; have f2 := cell_keep b5 e2; have f3 := cell_keep b5 e3; have f4 := cell_keep b5 e4; have n6 := cell_keep b5 q6; have HBT : Hid (Below wr.heap.size wr w5) := hid ((Below.refl _ wr).drew.trans b5); have HO5 := hid (own_below HO.out HBT.out); have HQ5 := hid ((HBT.out.block _ (lt_of_block HQ.out)).trans HQ.out); have HB5 := hid (HB.out.trans (HBT.out.mono dsz1)); have hsz5 := Nat.le_trans dsz1 HBT.out.size; clear b5)
              | (refine step_append_new Tryd.underlying22 hi hz0 hz1 hz2 rfl (by decide) (by decide) rfl rfl rfl HO5.out rfl rfl rfl (by omega) hsz5 ?_; intro v9 w9 hown9 hg9; have HB9 := hid (HB5.out.trans (grown_below HO5.out hg9 hsz5)); have hq9 := rul_cells19 HB9.out; have m1 := hq9.2.1; have h0 := cell_keep hq9.2.2.2 E0.out; have h1 := cell_keep hq9.2.2.2 E1.out; have h2 := cell_keep hq9.2.2.2 E2.out; have h3 := cell_keep hq9.2.2.2 E3.out; have h4 := cell_keep hq9.2.2.2 E4.out; have HQ9 := hid ((hg9.block wo.heap.size (lt_of_block HQ5.out) (fun e => HNB.out _ _ HO5.out HQ5.out e.symm)).trans HQ5.out); have m6 : w9.cell? ⟨wo.heap.size, on, none⟩ = some (.string OB) := (by rw [ops_at HQ9.out on (by omega), HOB.out]); clear hq9)
              | fail)
          all_goals
            have hl1 : (r.atoms.map atomS ++ (r.conds.take (j + 1)).map condT).length = r.atoms.length + (j + 1) := by simp only [List.length_append, List.length_map, List.length_take]; omega
            have HO9 : Hid (w9.ownsRow (w.heap.size + 1) 9 1 v9 (r.atoms.length + (j + 1)) ((r.atoms.map atomS ++ (r.conds.take (j + 1)).map condT).map nmV)) := hid (by
              rw [HPk.out, List.map_append, List.map_singleton, ← HTS.out]
              exact hown9)
            obtain ⟨g9, cap9, rfl⟩ := own_slice1 HO9.out
            have HO9b : Hid (w9.ownsRow (w.heap.size + 1) 9 1 (.slice (some ⟨g9, 0, none⟩) (r.atoms.length + (j + 1)) cap9) (r.atoms.map atomS ++ (r.conds.take (j + 1)).map condT).length ((r.atoms.map atomS ++ (r.conds.take (j + 1)).map condT).map nmV)) := hid (by rw [hl1]; exact HO9.out)
            clear d1 e0 e1 e2 e3 e4 q6 n1 f0 f1 f2 f3 f4 n6 m1 h0 h1 h2 h3 h4 m6 hown9 hg9 HO9 HO5 HO HQ5 HB5 HBT hl1 HPk HTS HNB CL hS1 hS2 hS3 hS4 hoi hoj hcb hon6 E0 E1 E2 E3 E4 HOB HQ HB dbel
            go_wp2
            go_roundw
            case rel => exact ⟨j + 1, _, _, by omega, by go_num, rfl, HO9b, HQ9, HB9⟩
            case measure => simp [intOf]; omega
        · have hend : j = r.conds.length := by omega
          subst hend
          have hPe : (r.conds.take r.conds.length).map condT = r.conds.map condT := by rw [List.take_length]
          have hO := HO.out
          rw [hPe] at hO
          have hml : (r.atoms.map atomS ++ r.conds.map condT).length = r.atoms.length + r.conds.length := by simp
          obtain ⟨_, _, hu, hAT, _⟩ := own_names hO
          rw [hml] at hu
          injection hu with e1 _ e3
          subst e1 e3
          have CJ := fun W h => hid (ref_join AO cO (r.atoms.map atomS ++ r.conds.map condT) ⟨#[44, 32]⟩ W h (by rw [hml]; omega) (fun v hv => by
            rcases List.mem_append.1 hv with h | h
            · obtain ⟨a, ha, rfl⟩ := List.mem_map.1 h
              have := atomS_len (HOK.out.2.1 a ha)
              omega
            · obtain ⟨c, hc, rfl⟩ := List.mem_map.1 h
              have := condS_len (HOK.out.2.2.2 c hc)
              rw [condS_T, List.length_append] at this
              omega) (s := comS) rfl (by decide) HX.out)
          rw [hml] at CJ
          have HAT := hid hAT
          have HDB := hid dbel
          clear hPe hO hml hAT HO HQ HB HX HOK dbel
          go_wp2_with fail
          refine (CJ _ HAT.out).out.mono ?_
          rintro e w9 ⟨rfl, b9⟩
          have hbb := HDB.out.trans (b9.mono HDB.out.size)
          clear CJ HAT b9 HDB d0 d1
          go_wp2
          go_ret
          exact ⟨rfl, hbb⟩
end Go.Proofs.YtgeapgbebbapmaaDoor
