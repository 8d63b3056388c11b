/-
  WALKS: ast.checkAtom, ast.checkItems.
-/
import Derived.Test.YtgeapgbebbapmaaDoorAst6
import Derived.Test.YtgeapgbebbapmaaDoorVeqV
import Derived.Test.YtgeapgbebbapmaaDoorVv
namespace Go.Proofs.YtgeapgbebbapmaaDoor
open Go.RowKit

def zV : V := ⟨0, 0, ⟨#[]⟩⟩
theorem veq_zero (c : V) : veq c zV = true ↔ (c.k = 0 ∧ c.n = 0 ∧ c.s.size = 0) := by
  rw [veq_iff]
  constructor
  · intro e; rw [e]; exact ⟨rfl, rfl, rfl⟩
  · obtain ⟨a, b, ⟨⟨s⟩⟩⟩ := c
    rintro ⟨h1, h2, h3⟩
    have g1 : a = 0 := h1
    have g2 : b = 0 := h2
    have g3 : s = [] := List.length_eq_zero_iff.1 h3
    clear h1 h2 h3
    subst g1 g2 g3
    rfl
theorem term_ways (t : Trm) : (t.v = [] ∧ t.c.valid = true ∧ termE t = 0) ∨ (t.v = [] ∧ t.c.valid = false ∧ termE t = 4) ∨ (t.v ≠ [] ∧ nameB t.v = false ∧ termE t = 7) ∨
    (t.v ≠ [] ∧ nameB t.v = true ∧ veq t.c zV = true ∧ termE t = 0) ∨ (t.v ≠ [] ∧ nameB t.v = true ∧ veq t.c zV = false ∧ termE t = 1) := by
  unfold termE
  by_cases h : t.v = []
  · cases hv : t.c.valid <;> simp [h]
  · cases hn : nameB t.v
    · simp [h]
    · have he := veq_zero t.c
      cases hq : veq t.c zV
      · have hno : ¬ (t.c.k = 0 ∧ t.c.n = 0 ∧ t.c.s.size = 0) := fun e => by rw [he.2 e] at hq; cases hq
        rw [if_neg h, if_neg (by simp), if_neg hno]
        simp [h]
      · simp [h, he.1 hq]

set_option maxRecDepth 100000 in
set_option maxHeartbeats 4000000 in
theorem ast_checkAtom (a : Atm) (T : Option Addr) (c : Nat) (w : World) (hl : TrmsAt w T a.ts) (hm : a.ts.length ≤ 9223372036854775807) {x : Int} (hx : atomE a = x) :
    Calls Tryd.prog 72 #[.agg #[.bool a.neg, .string ⟨a.rel.toArray⟩, .slice T a.ts.length c]] w fun e w' => e = .returned (.int .i64 x) ∧ Below w.heap.size w w' := by
  obtain ⟨neg, rel, l⟩ := a
  unfold atomE at hx
  simp only at hx hl hm ⊢
  obtain ⟨Y, hY, hYd, _⟩ := nm rel
  obtain ⟨y, hy⟩ : ∃ y, nameB Y.data.toList = y := ⟨_, rfl⟩
  have H1 := fun W => hid (ast_validS Y W hy)
  rw [hYd] at hy
  rw [hY]
  rw [hy] at hx
  have hb0 := below_one w (.cells #[.bool neg, .string Y, .slice T l.length c] 60)
  clear hY hYd hy
  cases y
  · have hx : 7 = x := by simpa using hx
    subst hx
    go_enter Tryd.func72, Tryd.ntmps72
    go_wp2_with fail
    refine (H1 _).out.mono ?_
    rintro e w1 ⟨rfl, rfl⟩
    go_wp2
    go_ret
    exact ⟨rfl, hb0⟩
  · rw [if_neg (by simp)] at hx
    by_cases h6 : 6 < l.length
    · rw [if_pos h6] at hx
      subst hx
      go_enter Tryd.func72, Tryd.ntmps72
      go_wp2_with fail
      refine (H1 _).out.mono ?_
      rintro e w1 ⟨rfl, rfl⟩
      go_wp2
      go_ret
      exact ⟨rfl, hb0⟩
    · rw [if_neg h6] at hx
      have HX : Hid (firstE termE (l.drop 0) = x) := hid hx
      clear hx
      go_enter Tryd.func72, Tryd.ntmps72
      go_wp2_with fail
      refine (H1 _).out.mono ?_
      rintro e w1 ⟨rfl, rfl⟩
      clear H1
      go_wp2
      go_loopw [16] (fun i wr => ∃ k : Nat, k ≤ l.length ∧ i = .int .i64 k ∧ Hid (firstE termE (l.drop k) = x) ∧ Below w.heap.size w wr) (fun i _ => l.length - (intOf i).toNat)
      case atStart => exact ⟨0, by omega, rfl, HX, hb0⟩
      case round =>
        obtain ⟨k, hk, rfl, HK, hbel⟩ := hrel
        have hsz := hbel.size
        clear HX hb0
        by_cases hlt : k < l.length
        · obtain ⟨bb, o, rfl, hc⟩ := hl (by omega)
          obtain ⟨d0, d1, d2, d3⟩ := hc k hlt
          replace d0 := cell_keep hbel d0
          replace d1 := cell_keep hbel d1
          replace d2 := cell_keep hbel d2
          replace d3 := cell_keep hbel d3
          have hon := fun h => firstE_on (f := termE) hlt h
          have hat := fun h => firstE_at (f := termE) hlt h
          have hw := term_ways l[k]
          generalize l[k] = t at *
          obtain ⟨v, ⟨ck, cn, cs⟩⟩ := t
          simp only at *
          obtain ⟨Z, hZ, hZd, hZl⟩ := nm v
          have hno := noS hZl
          rw [hZ] at d0
          have hbN := hbel.alloc hsz (.cells #[.string Z, .int .i64 ck, .int .i64 cn, .string cs] 56)
          have HKo := HK.out
          clear HK hc
          rcases hw with ⟨h1, h2, h3⟩ | ⟨h1, h2, h3⟩ | ⟨h1, h2, h3⟩ | ⟨h1, h2, h4, h3⟩ | ⟨h1, h2, h4, h3⟩
          · have HN : Hid (firstE termE (l.drop (k + 1)) = x) := hid ((hon h3).symm.trans HKo)
            have hz : Z.toList.isEmpty = true := by rw [hno]; simpa using h1
            have H2 := fun W => hid (val_valid ⟨ck, cn, cs⟩ W h2)
            clear hno hon hat HKo h1 h2 h3 hZ hZd hZl
            go_wp2_with fail
            refine (H2 _).out.mono ?_
            rintro e w1 ⟨rfl, b1⟩
            have hb1 := hbN.trans (b1.mono hbN.size)
            clear H2 b1
            go_wp2
            go_roundw
            case rel => exact ⟨k + 1, by omega, by go_num, HN, hb1⟩
            case measure => simp [intOf]; omega
          · have hx : 4 = x := h3.symm.trans ((hat (by rw [h3]; decide)).symm.trans HKo)
            subst hx
            have hz : Z.toList.isEmpty = true := by rw [hno]; simpa using h1
            have H2 := fun W => hid (val_valid ⟨ck, cn, cs⟩ W h2)
            clear hno hon hat HKo h1 h2 h3 hZ hZd hZl
            go_wp2_with fail
            refine (H2 _).out.mono ?_
            rintro e w1 ⟨rfl, b1⟩
            have hb1 := hbN.trans (b1.mono hbN.size)
            clear H2 b1
            go_wp2
            go_ret
            exact ⟨rfl, hb1⟩
          · have hx : 7 = x := h3.symm.trans ((hat (by rw [h3]; decide)).symm.trans HKo)
            subst hx
            have hz : Z.toList.isEmpty = false := by rw [hno]; simpa using h1
            have H2 := fun W => hid (ast_validS Z W (x := false) (by rw [hZd]; exact h2))
            clear hno hon hat HKo h1 h2 h3 hZ hZd hZl
            go_wp2_with fail
            refine (H2 _).out.mono ?_
            rintro e w1 ⟨rfl, rfl⟩
            clear H2
            go_wp2
            go_ret
            exact ⟨rfl, hbN⟩
          · have HN : Hid (firstE termE (l.drop (k + 1)) = x) := hid ((hon h3).symm.trans HKo)
            have hz : Z.toList.isEmpty = false := by rw [hno]; simpa using h1
            have H2 := fun W => hid (ast_validS Z W (x := true) (by rw [hZd]; exact h2))
            have heq := fun W => eq_val3 ck cn cs 0 0 ⟨#[]⟩ h4 W
            have hgv := guardVal
            clear hno hon hat HKo h1 h2 h3 hZ hZd hZl h4
            go_wp2_with fail
            refine (H2 _).out.mono ?_
            rintro e w1 ⟨rfl, rfl⟩
            clear H2
            go_wp2
            go_roundw
            case rel => exact ⟨k + 1, by omega, by go_num, HN, hbN⟩
            case measure => simp [intOf]; omega
          · have hx : 1 = x := h3.symm.trans ((hat (by rw [h3]; decide)).symm.trans HKo)
            subst hx
            have hz : Z.toList.isEmpty = false := by rw [hno]; simpa using h1
            have H2 := fun W => hid (ast_validS Z W (x := true) (by rw [hZd]; exact h2))
            have heq := fun W => eq_val3 ck cn cs 0 0 ⟨#[]⟩ h4 W
            have hgv := guardVal
            clear hno hon hat HKo h1 h2 h3 hZ hZd hZl h4
            go_wp2_with fail
            refine (H2 _).out.mono ?_
            rintro e w1 ⟨rfl, rfl⟩
            clear H2
            go_wp2
            go_ret
            exact ⟨rfl, hbN⟩
        · have hx : 0 = x := (firstE_end hlt).symm.trans HK.out
          subst hx
          clear HK
          go_wp2
          go_ret
          exact ⟨rfl, hbel⟩

theorem cond_ways (c : Cnd) : (nameB c.v = false ∧ condE c = 7) ∨ (nameB c.v = true ∧ c.op < 0 ∧ condE c = 2) ∨ (nameB c.v = true ∧ 0 ≤ c.op ∧ 5 < c.op ∧ condE c = 2) ∨ (nameB c.v = true ∧ 0 ≤ c.op ∧ c.op ≤ 5 ∧ c.c.valid = false ∧ condE c = 4) ∨ (nameB c.v = true ∧ 0 ≤ c.op ∧ c.op ≤ 5 ∧ c.c.valid = true ∧ condE c = 0) := by
  unfold condE
  cases hn : nameB c.v
  · simp
  · by_cases h0 : c.op < 0
    · simp [h0]
    · by_cases h5 : 5 < c.op
      · simp [h5]; omega
      · cases hv : c.c.valid <;> simp [h0, h5] <;> omega

set_option maxRecDepth 100000 in
set_option maxHeartbeats 8000000 in
theorem ast_checkItems (r : Rul) (T T' : Option Addr) (c c' : Nat) (w : World) (ha : AtmsAt w T r.atoms) (hcn : CndsAt w T' r.conds) (hm : r.atoms.length ≤ 9223372036854775807) (hm' : r.conds.length ≤ 9223372036854775807) {x : Int} (hx : itemsE r = x) :
    Calls Tryd.prog 55 #[.agg #[.slice T r.atoms.length c, .slice T' r.conds.length c']] w fun e w' => e = .returned (.int .i64 x) ∧ Below w.heap.size w w' := by
  obtain ⟨ats, cs⟩ := r
  unfold itemsE at hx
  simp only at hx ha hcn hm hm' ⊢
  have hb0 := below_one w (.cells #[.slice T ats.length c, .slice T' cs.length c'] 49)
  by_cases h0 : ats.length = 0
  · have h0' : ats = [] := List.length_eq_zero_iff.1 h0
    rw [if_pos h0'] at hx
    subst hx h0'
    go_enter Tryd.func55, Tryd.ntmps55
    go_wp2
    go_ret
    exact ⟨rfl, hb0⟩
  · rw [if_neg (fun e => h0 (by rw [e]; rfl))] at hx
    have hpos : 0 < ats.length := by omega
    have bz : ((ats.length : Int) == 0) = false := by rw [beq_eq_false_iff_ne]; omega
    clear h0
    by_cases h8 : 8 < ats.length
    · rw [if_pos (.inl h8)] at hx
      subst hx
      go_enter Tryd.func55, Tryd.ntmps55
      go_wp2
      go_ret
      exact ⟨rfl, hb0⟩
    · by_cases h8' : 8 < cs.length
      · rw [if_pos (.inr h8')] at hx
        subst hx
        go_enter Tryd.func55, Tryd.ntmps55
        go_wp2
        go_ret
        exact ⟨rfl, hb0⟩
      · rw [if_neg (by rintro (h | h); exact h8 h; exact h8' h)] at hx
        have HX := hid hx
        clear hx
        have hs : (⟨w.heap.size, 0, none⟩ : Addr).block < (w.alloc (.cells #[.slice T ats.length c, .slice T' cs.length c'] 49)).heap.size := by simp
        go_enter Tryd.func55, Tryd.ntmps55
        go_wp2
        go_loopw [25] (fun i wr => ∃ k : Nat, k ≤ ats.length ∧ i = .int .i64 k ∧ Hid (firstE atomE ats = firstE atomE (ats.drop k)) ∧ Below w.heap.size w wr ∧ wr.cell? ⟨w.heap.size, 0, none⟩ = some (.slice T ats.length c) ∧ wr.cell? ⟨w.heap.size, 1, none⟩ = some (.slice T' cs.length c') ∧ w.heap.size < wr.heap.size) (fun i _ => ats.length - (intOf i).toNat)
        case atStart => exact ⟨0, by omega, rfl, hid rfl, hb0, by simp, by simp, by simp⟩
        case round =>
          obtain ⟨k, hk, rfl, HK, hbel, e0, e1, hlt0⟩ := hrel
          have hsz := hbel.size
          clear hb0
          by_cases hlt : k < ats.length
          · obtain ⟨bb, o, rfl, hc⟩ := ha (by omega)
            obtain ⟨Q, qc, d0, d1, d2, hq, hql, hqm⟩ := hc k hlt
            replace d0 := cell_keep hbel d0
            replace d1 := cell_keep hbel d1
            replace d2 := cell_keep hbel d2
            replace hq := hq.below hbel
            have hon := fun h => firstE_on (f := atomE) hlt h
            have hat := fun h => firstE_at (f := atomE) hlt h
            generalize ats[k] = a at *
            obtain ⟨y, hy⟩ : ∃ y, atomE a = y := ⟨_, rfl⟩
            rw [hy] at hon hat
            obtain ⟨neg, rel, ts⟩ := a
            simp only at *
            obtain ⟨Y, hY, _, _⟩ := nm rel
            have H1 := fun W h => hid (ast_checkAtom ⟨neg, rel, ts⟩ Q qc W h hqm hy)
            simp only [hY] at H1
            rw [hY] at d1
            have hbN := hbel.alloc hsz (.cells #[.bool neg, .string Y, .slice Q ts.length qc] 60)
            have hqN := hq.below (below_one wr (.cells #[.bool neg, .string Y, .slice Q ts.length qc] 60))
            have HKo := HK.out
            clear HK hc hy hq hY
            by_cases hy0 : y = 0
            · have HN : Hid (firstE atomE ats = firstE atomE (ats.drop (k + 1))) := hid (HKo.trans (hon hy0))
              subst hy0
              clear hon hat HKo
              go_wp2_with fail
              refine (H1 _ hqN).out.mono ?_
              rintro e w1 ⟨rfl, b1⟩
              have hb1 := hbN.trans (b1.mono hbN.size)
              have f0 := cell_keep b1 (cell_keep (below_one wr (.cells #[.bool neg, .string Y, .slice Q ts.length qc] 60)) e0)
              have f1 := cell_keep b1 (cell_keep (below_one wr (.cells #[.bool neg, .string Y, .slice Q ts.length qc] 60)) e1)
              have hs1 : w.heap.size < w1.heap.size := by have := b1.size; simp at this; omega
              clear H1 b1 e0 e1 hqN
              go_wp2
              go_roundw
              case rel => exact ⟨k + 1, by omega, by go_num, HN, hb1, f0, f1, hs1⟩
              case measure => simp [intOf]; omega
            · have hx : y = x := by
                have h1 := hat hy0
                have h2 := HX.out
                rw [HKo, h1, if_neg hy0] at h2
                exact h2
              have by0 : (y != 0) = true := by simpa using hy0
              subst hx
              clear hon hat HKo HX hy0
              go_wp2_with fail
              refine (H1 _ hqN).out.mono ?_
              rintro e w1 ⟨rfl, b1⟩
              have hb1 := hbN.trans (b1.mono hbN.size)
              clear H1 b1 e0 e1 hqN
              go_wp2
              go_ret
              exact ⟨rfl, hb1⟩
          · have h0 : firstE atomE ats = 0 := HK.out.trans (firstE_end hlt)
            have HX2 : Hid (firstE condE (cs.drop 0) = x) := hid (by have h2 := HX.out; rw [if_pos h0] at h2; exact h2)
            clear HX HK h0 ha
            go_wp2
            go_loopw [38] (fun i wq => ∃ k : Nat, k ≤ cs.length ∧ i = .int .i64 k ∧ Hid (firstE condE (cs.drop k) = x) ∧ Below w.heap.size w wq) (fun i _ => cs.length - (intOf i).toNat)
            case atStart => exact ⟨0, by omega, rfl, HX2, hbel⟩
            case round =>
              obtain ⟨j, hj, rfl, HJ, hbelq⟩ := hrel
              have hszq := hbelq.size
              clear HX2 hbel e0 e1 hlt0 hsz
              by_cases hjt : j < cs.length
              · obtain ⟨bb, o, rfl, hc⟩ := hcn (by omega)
                obtain ⟨d0, d1, d2, d3, d4⟩ := hc j hjt
                replace d0 := cell_keep hbelq d0
                replace d1 := cell_keep hbelq d1
                replace d2 := cell_keep hbelq d2
                replace d3 := cell_keep hbelq d3
                replace d4 := cell_keep hbelq d4
                have hon := fun h => firstE_on (f := condE) hjt h
                have hat := fun h => firstE_at (f := condE) hjt h
                have hw := cond_ways cs[j]
                generalize cs[j] = t at *
                obtain ⟨v, op, ⟨ck, cn, ct⟩⟩ := t
                simp only at *
                obtain ⟨Z, hZ, hZd, _⟩ := nm v
                rw [hZ] at d0
                have hbN := hbelq.alloc hszq (.cells #[.string Z, .int .i64 op, .int .i64 ck, .int .i64 cn, .string ct] 62)
                have HKo := HJ.out
                clear HJ hc
                rcases hw with ⟨h1, h3⟩ | ⟨h1, h2, h3⟩ | ⟨h1, h2, h4, h3⟩ | ⟨h1, h2, h4, h5, h3⟩ | ⟨h1, h2, h4, h5, h3⟩
                · have hx : 7 = x := h3.symm.trans ((hat (by rw [h3]; decide)).symm.trans HKo)
                  subst hx
                  have H2 := fun W => hid (ast_validS Z W (x := false) (by rw [hZd]; exact h1))
                  clear hon hat HKo h1 h3 hZ hZd
                  go_wp2_with fail
                  refine (H2 _).out.mono ?_
                  rintro e w1 ⟨rfl, rfl⟩
                  clear H2
                  go_wp2
                  go_ret
                  exact ⟨rfl, hbN⟩
                · have hx : 2 = x := h3.symm.trans ((hat (by rw [h3]; decide)).symm.trans HKo)
                  subst hx
                  have H2 := fun W => hid (ast_validS Z W (x := true) (by rw [hZd]; exact h1))
                  clear hon hat HKo h1 h3 hZ hZd
                  go_wp2_with fail
                  refine (H2 _).out.mono ?_
                  rintro e w1 ⟨rfl, rfl⟩
                  clear H2
                  go_wp2
                  go_ret
                  exact ⟨rfl, hbN⟩
                · have hx : 2 = x := h3.symm.trans ((hat (by rw [h3]; decide)).symm.trans HKo)
                  subst hx
                  have H2 := fun W => hid (ast_validS Z W (x := true) (by rw [hZd]; exact h1))
                  clear hon hat HKo h1 h3 hZ hZd
                  go_wp2_with fail
                  refine (H2 _).out.mono ?_
                  rintro e w1 ⟨rfl, rfl⟩
                  clear H2
                  go_wp2
                  go_ret
                  exact ⟨rfl, hbN⟩
                · have hx : 4 = x := h3.symm.trans ((hat (by rw [h3]; decide)).symm.trans HKo)
                  subst hx
                  have H2 := fun W => hid (ast_validS Z W (x := true) (by rw [hZd]; exact h1))
                  have H3 := fun W => hid (val_valid ⟨ck, cn, ct⟩ W h5)
                  clear hon hat HKo h1 h3 hZ hZd h5
                  go_wp2_with fail
                  refine (H2 _).out.mono ?_
                  rintro e w1 ⟨rfl, rfl⟩
                  clear H2
                  go_wp2_with fail
                  refine (H3 _).out.mono ?_
                  rintro e w1 ⟨rfl, b1⟩
                  have hb1 := hbN.trans (b1.mono hbN.size)
                  clear H3 b1
                  go_wp2
                  go_ret
                  exact ⟨rfl, hb1⟩
                · have HN : Hid (firstE condE (cs.drop (j + 1)) = x) := hid ((hon h3).symm.trans HKo)
                  have H2 := fun W => hid (ast_validS Z W (x := true) (by rw [hZd]; exact h1))
                  have H3 := fun W => hid (val_valid ⟨ck, cn, ct⟩ W h5)
                  clear hon hat HKo h1 h3 hZ hZd h5
                  go_wp2_with fail
                  refine (H2 _).out.mono ?_
                  rintro e w1 ⟨rfl, rfl⟩
                  clear H2
                  go_wp2_with fail
                  refine (H3 _).out.mono ?_
                  rintro e w1 ⟨rfl, b1⟩
                  have hb1 := hbN.trans (b1.mono hbN.size)
                  clear H3 b1
                  go_wp2
                  go_roundw
                  case rel => exact ⟨j + 1, by omega, by go_num, HN, hb1⟩
                  case measure => simp [intOf]; omega
              · have hx : 0 = x := (firstE_end hjt).symm.trans HJ.out
                subst hx
                clear HJ
                go_wp2
                go_ret
                exact ⟨rfl, hbelq⟩
end Go.Proofs.YtgeapgbebbapmaaDoor
