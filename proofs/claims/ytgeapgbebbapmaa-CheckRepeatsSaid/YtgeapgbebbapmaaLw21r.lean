/-
  WALK: the law CheckRepeats, over what awake answers; no condition on the arguments.
-/
import Derived.Test.YtgeapgbebbapmaaChk7
import Derived.Test.YtgeapgbebbapmaaLw21c
import Derived.Test.YtgeapgbebbapmaaLw21d
import Derived.Test.YtgeapgbebbapmaaRep
import Derived.Test.YtgeapgbebbapmaaReg
import Derived.Deep.QuietTactic
import Derived.BigQuiet
import Derived.Deep.DeepCutAuto
namespace Go.Proofs.Ytgeapgbebbapmaa
open Go.RowKit

set_option maxRecDepth 100000 in
set_option maxHeartbeats 16000000 in
theorem law_repeats (AW : ∀ W : World, Hid (Calls Try.prog 12 #[] W fun e w' => e = .returned (.bool true) ∧ Below W.heap.size W w'))
    (q : Qry) (S : List Sch) (A R O B : Option Addr) (ch cr co cs iv : Nat) (w : World) (hq : QryIn w q A R O ch cr co) (hs : SchsAt w B S) (hwf : q.wf) (hws : ∀ s ∈ S, s.wf) (hms : S.length ≤ 9223372036854775807) (hiv : iv < 256) :
    Calls Try.prog 8 #[qryV q A R O ch cr co, .slice B S.length cs, .int .u8 iv] w fun e w' => e = .returned (.bool true) ∧ Below w.heap.size w w' := by
  have HQ := hid hq
  have HS := hid hs
  have HWF := hid hwf
  have HWS := hid hws
  obtain ⟨⟨e0, ty⟩, hx⟩ : ∃ x, checkT q S = x := ⟨_, rfl⟩
  obtain ⟨bd, hbd⟩ : ∃ x, badB S = x := ⟨_, rfl⟩
  have HX := hid hx
  have C1 := fun W h => hid (law_great q A R O ch cr co W h)
  have C2 := fun W h => hid (law_bad S B cs W h hms hbd)
  have C3 := fun W h1 h2 => hid (chk_check q S A R O B ch cr co cs W h1 h2 hwf hws hms hx)
  obtain ⟨hHd, hRl, hOr, lh, lr, lo, mh, mr, mo⟩ := hq
  have HHd := hid hHd
  have HRl := hid hRl
  have HOr := hid hOr
  have HL : Hid (q.head.length ≤ ch ∧ q.rules.length ≤ cr ∧ q.order.length ≤ co ∧ q.head.length ≤ 9223372036854775807 ∧ q.rules.length ≤ 9223372036854775807 ∧ q.order.length ≤ 9223372036854775807) := hid ⟨lh, lr, lo, mh, mr, mo⟩
  obtain ⟨Y, hY, _, _⟩ := nm q.aggVar
  have HY := hid hY
  unfold qryV at C1 C3 ⊢
  simp only [hY] at C1 C3 ⊢
  clear hx hbd hs hwf hws hHd hRl hOr hY lh lr lo mh mo
  obtain ⟨hd, ga, av, rs, os⟩ := q
  simp only at *
  have HB0 : Hid (Below (w.heap.size + 1) (w.alloc (.cells #[.slice A hd.length ch, .int .i64 ga, .string Y, .slice R rs.length cr, .slice O os.length co] 26)) (w.alloc (.cells #[.slice A hd.length ch, .int .i64 ga, .string Y, .slice R rs.length cr, .slice O os.length co] 26))) := hid (Below.refl _ _)
  have hb0 := (qry_cells HB0.out).2.2.2.2.2.2
  go_enter Try.func8, Try.ntmps8
  go_wp2_with fail
  refine (C1 _ (HQ.out.below hb0)).out.mono ?_
  rintro e w2 ⟨hsb, b2⟩
  obtain ⟨bg, rfl⟩ := hsb
  have HB2 := hid (HB0.out.trans (b2.mono (by simp)))
  clear C1 b2 HB0 hb0
  obtain ⟨q0, q1, q2, q3, q4, qlt, hbel⟩ := qry_cells HB2.out
  cases bg with
  | true =>
    go_wp2_with fail
    refine (AW _).out.mono ?_
    rintro e w9 ⟨rfl, b9⟩
    have hb9 := hbel.trans (b9.mono hbel.size)
    clear b9
    go_wp2
    go_ret
    exact ⟨rfl, hb9⟩
  | false =>
    go_wp2_with fail
    refine (C2 _ (HS.out.below hbel)).out.mono ?_
    rintro e w3 ⟨rfl, b3⟩
    have HB3 := hid (HB2.out.trans (b3.mono (by have := HB2.out.size; simpa using this)))
    clear C2 b3 HB2 q0 q1 q2 q3 q4 qlt hbel
    obtain ⟨q0, q1, q2, q3, q4, qlt, hbel⟩ := qry_cells HB3.out
    cases bd with
    | true =>
      go_wp2_with fail
      refine (AW _).out.mono ?_
      rintro e w9 ⟨rfl, b9⟩
      have hb9 := hbel.trans (b9.mono hbel.size)
      clear b9
      go_wp2
      go_ret
      exact ⟨rfl, hb9⟩
    | false =>
      by_cases hn0 : rs.length = 0
      · have z0 : ((rs.length : Int) == 0) = true := by simpa using hn0
        clear hn0
        go_wp2_with fail
        refine (AW _).out.mono ?_
        rintro e w9 ⟨rfl, b9⟩
        have hb9 := hbel.trans (b9.mono hbel.size)
        clear b9
        go_wp2
        go_ret
        exact ⟨rfl, hb9⟩
      · have z0 : ((rs.length : Int) == 0) = false := by simpa using hn0
        by_cases hn3 : 3 ≤ rs.length
        · have z3 : (decide ((rs.length : Int) ≥ 3)) = true := decide_eq_true (by omega)
          clear hn0
          go_wp2_with fail
          refine (AW _).out.mono ?_
          rintro e w9 ⟨rfl, b9⟩
          have hb9 := hbel.trans (b9.mono hbel.size)
          clear b9
          go_wp2
          go_ret
          exact ⟨rfl, hb9⟩
        · have z3 : (decide ((rs.length : Int) ≥ 3)) = false := decide_eq_false (by omega)
          by_cases hga : ga = 0
          · subst hga

            obtain ⟨i0, hi, hz0, hz1, hz2⟩ := info_parts infoRul
            obtain ⟨bR, oR, f, rfl, hf2, hfC, hfc, hfl⟩ := (rulsC.1 HRl.out).read (by omega)
            obtain ⟨jn, hjn⟩ : ∃ j, iv % rs.length = j := ⟨_, rfl⟩
            have hjlt : jn < rs.length := by rw [← hjn]; exact Nat.mod_lt _ (by omega)
            obtain ⟨T, c1, T2, c2, hfj, _⟩ := hfC jn hjlt
            have hv0 : w.cell? ⟨bR, oR + jn * 2, none⟩ = some (.slice T rs[jn].atoms.length c1) := hfc jn hjlt 0 (.slice T rs[jn].atoms.length c1) (by rw [hfj]; rfl)
            have hv1 := hfc jn hjlt 1 (.slice T2 rs[jn].conds.length c2) (by rw [hfj]; rfl)
            have HW : Hid (QryIn w ⟨hd, 0, av, rs, os⟩ A (some ⟨bR, oR, none⟩) O ch cr co) := HQ
            obtain ⟨n1, hn1⟩ : ∃ n, rs[jn].atoms.length = n := ⟨_, rfl⟩
            obtain ⟨n2, hn2⟩ : ∃ n, rs[jn].conds.length = n := ⟨_, rfl⟩
            rw [hn1] at hfj hv0
            rw [hn2] at hfj hv1
            obtain ⟨rl2, hxa, hxl, hxt⟩ := again_res HX.out (List.getElem_mem hjlt) (by simp only; omega) rfl
            have HXA := hid hxa
            have HXL := hid hxl
            have HF2 := hid hf2
            have HFC := hid hfC
            have HFJ := hid hfj
            have HV0 := hid hv0
            have HV1 := hid hv1
            have HFL := hid hfl
            have HXT := hid hxt
            have hop1 : ∀ i, i < rs.length → ∀ v ∈ f i, v.oneCell' = true := fun i hi => (HFC.out i hi).one
            have HO1 := hid (flat_one hop1)
            have HJN := hid hjn
            clear hfC hfc hfl hf2 hfj hv0 hv1 hn1 hn2 hxa hxl hxt hop1 hjn
            go_upto_region 4 with fail
            have hp := heap_alloc_new w3 (.cells #[.slice A hd.length ch, .int .i64 0, .string Y, .slice (some ⟨bR, oR, none⟩) rs.length cr, .slice O os.length co] 26)
            have hbw := HB3.out.trans ((below_one w3 (.cells #[.slice A hd.length ch, .int .i64 0, .string Y, .slice (some ⟨bR, oR, none⟩) rs.length cr, .slice O os.length co] 26)).mono (by have := HB3.out.size; simpa using this))
            have hgw : w.heap.size + 1 ≤ w3.heap.size := by have := HB3.out.size; simpa using this
            have hsw : w3.heap.size < (w3.alloc (.cells #[.slice A hd.length ch, .int .i64 0, .string Y, .slice (some ⟨bR, oR, none⟩) rs.length cr, .slice O os.length co] 26)).heap.size := by simp
            clear HB3 q0 q1 q2 q3 q4 qlt hbel z0 z3
            generalize (w3.alloc (.cells #[.slice A hd.length ch, .int .i64 0, .string Y, .slice (some ⟨bR, oR, none⟩) rs.length cr, .slice O os.length co] 26)) = wa at *
            generalize w3.heap.size = g7 at *
            obtain ⟨q0, q1, q2, q3, q4, qlt, hbel⟩ := qry_cells hbw
            have Q3 := hid q3
            have QL := hid qlt
            have HBW := hid hbw
            have HP := hid hp
            have HSW := hid hsw
            have V0 := hid (cell_keep hbel HV0.out)
            have V1 := hid (cell_keep hbel HV1.out)
            have HBE := hid hbel
            have HNL := hid hn3
            clear hp hbw hsw q0 q1 q2 q3 q4 qlt hbel
            refine wp_region_inv2 (fun d ac w9 => ∃ x38 x39 x40 x41 x42 x43 x44 x45 x46 x47 x48 x49 x50 x51 x52 x53 x54 : Value, ac = { tmps := List.toArray ((Value.agg #[Value.slice A hd.length ch, Value.int IntKind.i64 0, Value.string Y, .slice (some ⟨bR, oR, none⟩) rs.length cr, Value.slice O os.length co]) :: (Value.slice B S.length cs) :: (Value.int IntKind.u8 ↑iv) :: (Value.pointer (some { block := w.heap.size, off := 0 })) :: undef :: undef :: (Value.bool false) :: (Value.pointer (some { block := g7, off := 0 })) :: undef :: undef :: undef :: undef :: undef :: (Value.agg #[Value.slice A hd.length ch, Value.int IntKind.i64 0, Value.string Y, .slice (some ⟨bR, oR, none⟩) rs.length cr, Value.slice O os.length co]) :: (Value.bool false) :: (Value.bool false) :: (Value.slice B S.length cs) :: (Value.bool false) :: (Value.bool false) :: (Value.bool false) :: (Value.pointer (some { block := w.heap.size, off := 3 })) :: (.slice (some ⟨bR, oR, none⟩) rs.length cr) :: (Value.int IntKind.i64 ↑rs.length) :: (Value.bool false) :: (Value.bool false) :: (Value.bool false) :: (Value.pointer (some { block := w.heap.size, off := 3 })) :: (.slice (some ⟨bR, oR, none⟩) rs.length cr) :: (Value.int IntKind.i64 ↑rs.length) :: (Value.bool false) :: (Value.bool false) :: (Value.bool false) :: (Value.pointer (some { block := w.heap.size, off := 1 })) :: (Value.int IntKind.i64 0) :: (Value.bool false) :: (Value.bool false) :: undef :: (Value.agg #[Value.slice A hd.length ch, Value.int IntKind.i64 0, Value.string Y, .slice (some ⟨bR, oR, none⟩) rs.length cr, Value.slice O os.length co]) :: x38 :: x39 :: x40 :: x41 :: x42 :: x43 :: x44 :: x45 :: x46 :: x47 :: x48 :: x49 :: x50 :: x51 :: x52 :: x53 :: x54 :: undef :: undef :: undef :: undef :: undef :: undef :: undef :: undef :: undef :: undef :: undef :: undef :: undef :: undef :: undef :: undef :: undef :: undef :: undef :: undef :: undef :: undef :: undef :: undef :: undef :: undef :: undef :: undef :: undef :: undef :: undef :: undef :: undef :: undef :: undef :: undef :: undef :: undef :: undef :: undef :: undef :: undef :: undef :: undef :: undef :: undef :: undef :: undef :: undef :: undef :: undef :: undef :: undef :: undef :: undef :: undef :: undef :: undef :: undef :: []), defers := [] } ∧ ((d 17 = false ∧ Hid (Below wa.heap.size wa w9) ∧ Hid (d 0 = true → ∃ g, x38 = .slice (some ⟨g, 0, none⟩) 0 0) ∧ Hid (d 1 = true → x39 = .pointer (some ⟨w.heap.size, 3, none⟩)) ∧ Hid (d 2 = true → x40 = .slice (some ⟨bR, oR, none⟩) rs.length cr) ∧ Hid (d 3 = true → d 15 = false → w9.ownsRow wa.heap.size 46 2 x41 rs.length ((List.range rs.length).flatMap f)) ∧ Hid (d 4 = true → x42 = .pointer (some ⟨w.heap.size, 3, none⟩)) ∧ Hid (d 5 = true → x43 = .slice (some ⟨bR, oR, none⟩) rs.length cr) ∧ Hid (d 6 = true → x44 = .int .u8 (iv : Int)) ∧ Hid (d 7 = true → x45 = .int .i64 (iv : Int)) ∧ Hid (d 8 = true → x46 = .pointer (some ⟨w.heap.size, 3, none⟩)) ∧ Hid (d 9 = true → x47 = .slice (some ⟨bR, oR, none⟩) rs.length cr) ∧ Hid (d 10 = true → x48 = .int .i64 (rs.length : Int)) ∧ Hid (d 11 = true → x49 = .int .i64 (jn : Int)) ∧ Hid (d 12 = true → x50 = .pointer (some ⟨bR, oR + jn * 2, none⟩)) ∧ Hid (d 13 = true → x51 = .agg #[.slice T n1 c1, .slice T2 n2 c2]) ∧ Hid (d 14 = true → ∃ g, x52 = .slice (some ⟨g, 0, none⟩) 1 1 ∧ (d 15 = false → w9.heap[g]? = some (.cells #[.slice T n1 c1, .slice T2 n2 c2] 46 (0, 0)))) ∧ Hid (d 15 = true → ∃ gu cap, x53 = .slice (some ⟨gu, 0, none⟩) (rs.length + 1) cap ∧ w9.ownsRow wa.heap.size 46 2 (.slice (some ⟨gu, 0, none⟩) (rs.length + 1) cap) (rs.length + 1) (((List.range rs.length).flatMap f) ++ [.slice T n1 c1, .slice T2 n2 c2])) ∧ Hid (d 16 = true → x54 = .pointer (some ⟨g7, 3, none⟩))) ∨ (d 17 = true ∧ Hid (∃ gu cap, x53 = .slice (some ⟨gu, 0, none⟩) (rs.length + 1) cap ∧ w9.heap[g7]? = some (.cells #[.slice A hd.length ch, .int .i64 0, .string Y, .slice (some ⟨gu, 0, none⟩) (rs.length + 1) cap, .slice O os.length co] 26 (0, 0)) ∧ w9.ownsRow wa.heap.size 46 2 (.slice (some ⟨gu, 0, none⟩) (rs.length + 1) cap) (rs.length + 1) (((List.range rs.length).flatMap f) ++ [.slice T n1 c1, .slice T2 n2 c2]) ∧ Below g7 wa w9)))) (by kernel_rfl) (by kernel_rfl) ?h0 ?hst ?fin
            case h0 => exact ⟨_, _, _, _, _, _, _, _, _, _, _, _, _, _, _, _, _, rfl, .inl ⟨rfl, hid (Below.drew (Below.refl _ _)), fun h => absurd h (by decide), fun h => absurd h (by decide), fun h => absurd h (by decide), fun h => absurd h (by decide), fun h => absurd h (by decide), fun h => absurd h (by decide), fun h => absurd h (by decide), fun h => absurd h (by decide), fun h => absurd h (by decide), fun h => absurd h (by decide), fun h => absurd h (by decide), fun h => absurd h (by decide), fun h => absurd h (by decide), fun h => absurd h (by decide), fun h => absurd h (by decide), fun h => absurd h (by decide), fun h => absurd h (by decide)⟩⟩
            case hst =>
              refine ⟨?_, ?_, ?_, ?_, ?_, ?_, ?_, ?_, ?_, ?_, ?_, ?_, ?_, ?_, ?_, ?_, ?_, ?_, trivial⟩
              · rintro d ac w9 ⟨x38, x39, x40, x41, x42, x43, x44, x45, x46, x47, x48, x49, x50, x51, x52, x53, x54, rfl, hI⟩ hcl hdk haft
                rcases hI with ⟨hdf, HB, f0, f1, f2, f3, f4, f5, f6, f7, f8, f9, f10, f11, f12, f13, f14, f15, f16⟩ | ⟨hdl, _⟩
                rotate_left
                · exact absurd ((hcl 3 _ rfl (hcl 15 _ rfl (hcl 17 _ rfl hdl ⟨15, .data⟩ (by simp) rfl) ⟨3, .data⟩ (by simp) rfl) ⟨0, .data⟩ (by simp) rfl).symm.trans hdk) (by decide)
                have hdz := hid hdf
                clear  hdk haft hcl hdf
                go_wp2
                exact thenK_n ⟨_, _, _, _, _, _, _, _, _, _, _, _, _, _, _, _, _, rfl, .inl ⟨kd rfl hdz, hid (HB.out.trans ((below_one w9 _).mono HB.out.size)), nf (⟨_, rfl⟩), kf rfl f1 (fun h => (by first | exact h | exact rfl)), kf rfl f2 (fun h => (by first | exact h | exact rfl)), kf rfl f3 (fun h => fun h15 => own_belowS (h (unupd rfl h15)) (below_one w9 _)), kf rfl f4 (fun h => (by first | exact h | exact rfl)), kf rfl f5 (fun h => (by first | exact h | exact rfl)), kf rfl f6 (fun h => (by first | exact h | exact rfl)), kf rfl f7 (fun h => (by first | exact h | exact rfl)), kf rfl f8 (fun h => (by first | exact h | exact rfl)), kf rfl f9 (fun h => (by first | exact h | exact rfl)), kf rfl f10 (fun h => (by first | exact h | exact rfl)), kf rfl f11 (fun h => (by first | exact h | exact rfl)), kf rfl f12 (fun h => (by first | exact h | exact rfl)), kf rfl f13 (fun h => (by first | exact h | exact rfl)), kf rfl f14 (fun h => (by obtain ⟨g, e1, e2⟩ := h; exact ⟨g, e1, fun h15 => res_keep' (e2 (unupd rfl h15)) (below_one w9 _) (lt_of_block (e2 (unupd rfl h15)))⟩)), kf rfl f15 (fun h => (by obtain ⟨gu, cap, e1, e2⟩ := h; exact ⟨gu, cap, e1, own_belowS e2 (below_one w9 _)⟩)), kf rfl f16 (fun h => (by first | exact h | exact rfl))⟩⟩
              · rintro d ac w9 ⟨x38, x39, x40, x41, x42, x43, x44, x45, x46, x47, x48, x49, x50, x51, x52, x53, x54, rfl, hI⟩ hcl hdk haft
                rcases hI with ⟨hdf, HB, f0, f1, f2, f3, f4, f5, f6, f7, f8, f9, f10, f11, f12, f13, f14, f15, f16⟩ | ⟨hdl, _⟩
                rotate_left
                · exact absurd ((hcl 2 _ rfl (hcl 3 _ rfl (hcl 15 _ rfl (hcl 17 _ rfl hdl ⟨15, .data⟩ (by simp) rfl) ⟨3, .data⟩ (by simp) rfl) ⟨2, .data⟩ (by simp) rfl) ⟨1, .data⟩ (by simp) rfl).symm.trans hdk) (by decide)
                have hdz := hid hdf
                clear  hdk haft hcl hdf
                go_wp2
                exact thenK_n ⟨_, _, _, _, _, _, _, _, _, _, _, _, _, _, _, _, _, rfl, .inl ⟨kd rfl hdz, hid (HB.out.trans ((Below.refl w9.heap.size w9).mono HB.out.size)), kf rfl f0 (fun h => (by first | exact h | exact rfl)), nf (rfl), kf rfl f2 (fun h => (by first | exact h | exact rfl)), kf rfl f3 (fun h => fun h15 => own_belowS (h (unupd rfl h15)) (Below.refl w9.heap.size w9)), kf rfl f4 (fun h => (by first | exact h | exact rfl)), kf rfl f5 (fun h => (by first | exact h | exact rfl)), kf rfl f6 (fun h => (by first | exact h | exact rfl)), kf rfl f7 (fun h => (by first | exact h | exact rfl)), kf rfl f8 (fun h => (by first | exact h | exact rfl)), kf rfl f9 (fun h => (by first | exact h | exact rfl)), kf rfl f10 (fun h => (by first | exact h | exact rfl)), kf rfl f11 (fun h => (by first | exact h | exact rfl)), kf rfl f12 (fun h => (by first | exact h | exact rfl)), kf rfl f13 (fun h => (by first | exact h | exact rfl)), kf rfl f14 (fun h => (by obtain ⟨g, e1, e2⟩ := h; exact ⟨g, e1, fun h15 => res_keep' (e2 (unupd rfl h15)) (Below.refl w9.heap.size w9) (lt_of_block (e2 (unupd rfl h15)))⟩)), kf rfl f15 (fun h => (by obtain ⟨gu, cap, e1, e2⟩ := h; exact ⟨gu, cap, e1, own_belowS e2 (Below.refl w9.heap.size w9)⟩)), kf rfl f16 (fun h => (by first | exact h | exact rfl))⟩⟩
              · rintro d ac w9 ⟨x38, x39, x40, x41, x42, x43, x44, x45, x46, x47, x48, x49, x50, x51, x52, x53, x54, rfl, hI⟩ hcl hdk haft
                rcases hI with ⟨hdf, HB, f0, f1, f2, f3, f4, f5, f6, f7, f8, f9, f10, f11, f12, f13, f14, f15, f16⟩ | ⟨hdl, _⟩
                rotate_left
                · exact absurd ((hcl 3 _ rfl (hcl 15 _ rfl (hcl 17 _ rfl hdl ⟨15, .data⟩ (by simp) rfl) ⟨3, .data⟩ (by simp) rfl) ⟨2, .data⟩ (by simp) rfl).symm.trans hdk) (by decide)
                have h1 := haft ⟨1, .data⟩ (by simp) rfl
                obtain rfl := f1.out h1
                have hdz := hid hdf
                have q3 := cell_keep HB.out Q3.out
                have qlt : w.heap.size < w9.heap.size := by have := HB.out.size; have := QL.out; omega
                clear h1 hdk haft hcl hdf
                go_wp2
                exact thenK_n ⟨_, _, _, _, _, _, _, _, _, _, _, _, _, _, _, _, _, rfl, .inl ⟨kd rfl hdz, hid (HB.out.trans ((Below.refl w9.heap.size w9).mono HB.out.size)), kf rfl f0 (fun h => (by first | exact h | exact rfl)), kf rfl f1 (fun h => (by first | exact h | exact rfl)), nf (rfl), kf rfl f3 (fun h => fun h15 => own_belowS (h (unupd rfl h15)) (Below.refl w9.heap.size w9)), kf rfl f4 (fun h => (by first | exact h | exact rfl)), kf rfl f5 (fun h => (by first | exact h | exact rfl)), kf rfl f6 (fun h => (by first | exact h | exact rfl)), kf rfl f7 (fun h => (by first | exact h | exact rfl)), kf rfl f8 (fun h => (by first | exact h | exact rfl)), kf rfl f9 (fun h => (by first | exact h | exact rfl)), kf rfl f10 (fun h => (by first | exact h | exact rfl)), kf rfl f11 (fun h => (by first | exact h | exact rfl)), kf rfl f12 (fun h => (by first | exact h | exact rfl)), kf rfl f13 (fun h => (by first | exact h | exact rfl)), kf rfl f14 (fun h => (by obtain ⟨g, e1, e2⟩ := h; exact ⟨g, e1, fun h15 => res_keep' (e2 (unupd rfl h15)) (Below.refl w9.heap.size w9) (lt_of_block (e2 (unupd rfl h15)))⟩)), kf rfl f15 (fun h => (by obtain ⟨gu, cap, e1, e2⟩ := h; exact ⟨gu, cap, e1, own_belowS e2 (Below.refl w9.heap.size w9)⟩)), kf rfl f16 (fun h => (by first | exact h | exact rfl))⟩⟩
              · rintro d ac w9 ⟨x38, x39, x40, x41, x42, x43, x44, x45, x46, x47, x48, x49, x50, x51, x52, x53, x54, rfl, hI⟩ hcl hdk haft
                rcases hI with ⟨hdf, HB, f0, f1, f2, f3, f4, f5, f6, f7, f8, f9, f10, f11, f12, f13, f14, f15, f16⟩ | ⟨hdl, _⟩
                rotate_left
                · exact absurd ((hcl 15 _ rfl (hcl 17 _ rfl hdl ⟨15, .data⟩ (by simp) rfl) ⟨3, .data⟩ (by simp) rfl).symm.trans hdk) (by decide)
                have h0 := haft ⟨0, .data⟩ (by simp) rfl
                have h2 := haft ⟨2, .data⟩ (by simp) rfl
                obtain ⟨b0, rfl⟩ := f0.out h0
                obtain rfl := f2.out h2
                have hdz := hid hdf
                clear h0 h2 hdk haft hcl hdf
                refine wpList_append_grows _ rfl _ _ 23 rfl 46 i0 _ 2 48 Try.underlying23 hi hz0 hz1 hz2 rfl (by decide) (some ⟨b0, 0, none⟩) 0 0 [] rfl (by intro h; cases h) rfl (by intro b0 h0 j u hj; simp at hj) ⟨bR, oR, none⟩ rs.length cr ((List.range rs.length).flatMap f) rfl (flat_range_len HF2.out _) (fun j u hj => by have h := HFL.out j u hj; rw [Addr.add_lit] at h ⊢; exact cell_keep (HBE.out.trans (HB.out.mono HBE.out.size)) h) HO1.out (by have := HNL.out; omega) (by unfold maxLen; have := HNL.out; omega) (by have := HNL.out; omega) ?_
                intro v8 w8 hown8 hg8
                have hO8 := own_mono hown8 HB.out.size
                simp only [List.nil_append, Nat.zero_add] at hO8
                go_wp2
                exact thenK_n ⟨_, _, _, _, _, _, _, _, _, _, _, _, _, _, _, _, _, rfl, .inl ⟨kd rfl hdz, hid (HB.out.trans ((below_none hg8).mono HB.out.size)), kf rfl f0 (fun h => (by first | exact h | exact rfl)), kf rfl f1 (fun h => (by first | exact h | exact rfl)), kf rfl f2 (fun h => (by first | exact h | exact rfl)), nf (fun _ => hO8), kf rfl f4 (fun h => (by first | exact h | exact rfl)), kf rfl f5 (fun h => (by first | exact h | exact rfl)), kf rfl f6 (fun h => (by first | exact h | exact rfl)), kf rfl f7 (fun h => (by first | exact h | exact rfl)), kf rfl f8 (fun h => (by first | exact h | exact rfl)), kf rfl f9 (fun h => (by first | exact h | exact rfl)), kf rfl f10 (fun h => (by first | exact h | exact rfl)), kf rfl f11 (fun h => (by first | exact h | exact rfl)), kf rfl f12 (fun h => (by first | exact h | exact rfl)), kf rfl f13 (fun h => (by first | exact h | exact rfl)), kf rfl f14 (fun h => (by obtain ⟨g, e1, e2⟩ := h; exact ⟨g, e1, fun h15 => res_keep' (e2 (unupd rfl h15)) (below_none hg8) (lt_of_block (e2 (unupd rfl h15)))⟩)), kf rfl f15 (fun h => (by obtain ⟨gu, cap, e1, e2⟩ := h; exact ⟨gu, cap, e1, own_belowS e2 (below_none hg8)⟩)), kf rfl f16 (fun h => (by first | exact h | exact rfl))⟩⟩
              · rintro d ac w9 ⟨x38, x39, x40, x41, x42, x43, x44, x45, x46, x47, x48, x49, x50, x51, x52, x53, x54, rfl, hI⟩ hcl hdk haft
                rcases hI with ⟨hdf, HB, f0, f1, f2, f3, f4, f5, f6, f7, f8, f9, f10, f11, f12, f13, f14, f15, f16⟩ | ⟨hdl, _⟩
                rotate_left
                · exact absurd ((hcl 5 _ rfl (hcl 12 _ rfl (hcl 13 _ rfl (hcl 14 _ rfl (hcl 15 _ rfl (hcl 17 _ rfl hdl ⟨15, .data⟩ (by simp) rfl) ⟨14, .data⟩ (by simp) rfl) ⟨13, .data⟩ (by simp) rfl) ⟨12, .data⟩ (by simp) rfl) ⟨5, .data⟩ (by simp) rfl) ⟨4, .data⟩ (by simp) rfl).symm.trans hdk) (by decide)
                have hdz := hid hdf
                clear  hdk haft hcl hdf
                go_wp2
                exact thenK_n ⟨_, _, _, _, _, _, _, _, _, _, _, _, _, _, _, _, _, rfl, .inl ⟨kd rfl hdz, hid (HB.out.trans ((Below.refl w9.heap.size w9).mono HB.out.size)), kf rfl f0 (fun h => (by first | exact h | exact rfl)), kf rfl f1 (fun h => (by first | exact h | exact rfl)), kf rfl f2 (fun h => (by first | exact h | exact rfl)), kf rfl f3 (fun h => fun h15 => own_belowS (h (unupd rfl h15)) (Below.refl w9.heap.size w9)), nf (rfl), kf rfl f5 (fun h => (by first | exact h | exact rfl)), kf rfl f6 (fun h => (by first | exact h | exact rfl)), kf rfl f7 (fun h => (by first | exact h | exact rfl)), kf rfl f8 (fun h => (by first | exact h | exact rfl)), kf rfl f9 (fun h => (by first | exact h | exact rfl)), kf rfl f10 (fun h => (by first | exact h | exact rfl)), kf rfl f11 (fun h => (by first | exact h | exact rfl)), kf rfl f12 (fun h => (by first | exact h | exact rfl)), kf rfl f13 (fun h => (by first | exact h | exact rfl)), kf rfl f14 (fun h => (by obtain ⟨g, e1, e2⟩ := h; exact ⟨g, e1, fun h15 => res_keep' (e2 (unupd rfl h15)) (Below.refl w9.heap.size w9) (lt_of_block (e2 (unupd rfl h15)))⟩)), kf rfl f15 (fun h => (by obtain ⟨gu, cap, e1, e2⟩ := h; exact ⟨gu, cap, e1, own_belowS e2 (Below.refl w9.heap.size w9)⟩)), kf rfl f16 (fun h => (by first | exact h | exact rfl))⟩⟩
              · rintro d ac w9 ⟨x38, x39, x40, x41, x42, x43, x44, x45, x46, x47, x48, x49, x50, x51, x52, x53, x54, rfl, hI⟩ hcl hdk haft
                rcases hI with ⟨hdf, HB, f0, f1, f2, f3, f4, f5, f6, f7, f8, f9, f10, f11, f12, f13, f14, f15, f16⟩ | ⟨hdl, _⟩
                rotate_left
                · exact absurd ((hcl 12 _ rfl (hcl 13 _ rfl (hcl 14 _ rfl (hcl 15 _ rfl (hcl 17 _ rfl hdl ⟨15, .data⟩ (by simp) rfl) ⟨14, .data⟩ (by simp) rfl) ⟨13, .data⟩ (by simp) rfl) ⟨12, .data⟩ (by simp) rfl) ⟨5, .data⟩ (by simp) rfl).symm.trans hdk) (by decide)
                have h4 := haft ⟨4, .data⟩ (by simp) rfl
                obtain rfl := f4.out h4
                have hdz := hid hdf
                have q3 := cell_keep HB.out Q3.out
                have qlt : w.heap.size < w9.heap.size := by have := HB.out.size; have := QL.out; omega
                clear h4 hdk haft hcl hdf
                go_wp2
                exact thenK_n ⟨_, _, _, _, _, _, _, _, _, _, _, _, _, _, _, _, _, rfl, .inl ⟨kd rfl hdz, hid (HB.out.trans ((Below.refl w9.heap.size w9).mono HB.out.size)), kf rfl f0 (fun h => (by first | exact h | exact rfl)), kf rfl f1 (fun h => (by first | exact h | exact rfl)), kf rfl f2 (fun h => (by first | exact h | exact rfl)), kf rfl f3 (fun h => fun h15 => own_belowS (h (unupd rfl h15)) (Below.refl w9.heap.size w9)), kf rfl f4 (fun h => (by first | exact h | exact rfl)), nf (rfl), kf rfl f6 (fun h => (by first | exact h | exact rfl)), kf rfl f7 (fun h => (by first | exact h | exact rfl)), kf rfl f8 (fun h => (by first | exact h | exact rfl)), kf rfl f9 (fun h => (by first | exact h | exact rfl)), kf rfl f10 (fun h => (by first | exact h | exact rfl)), kf rfl f11 (fun h => (by first | exact h | exact rfl)), kf rfl f12 (fun h => (by first | exact h | exact rfl)), kf rfl f13 (fun h => (by first | exact h | exact rfl)), kf rfl f14 (fun h => (by obtain ⟨g, e1, e2⟩ := h; exact ⟨g, e1, fun h15 => res_keep' (e2 (unupd rfl h15)) (Below.refl w9.heap.size w9) (lt_of_block (e2 (unupd rfl h15)))⟩)), kf rfl f15 (fun h => (by obtain ⟨gu, cap, e1, e2⟩ := h; exact ⟨gu, cap, e1, own_belowS e2 (Below.refl w9.heap.size w9)⟩)), kf rfl f16 (fun h => (by first | exact h | exact rfl))⟩⟩
              · rintro d ac w9 ⟨x38, x39, x40, x41, x42, x43, x44, x45, x46, x47, x48, x49, x50, x51, x52, x53, x54, rfl, hI⟩ hcl hdk haft
                rcases hI with ⟨hdf, HB, f0, f1, f2, f3, f4, f5, f6, f7, f8, f9, f10, f11, f12, f13, f14, f15, f16⟩ | ⟨hdl, _⟩
                rotate_left
                · exact absurd ((hcl 7 _ rfl (hcl 11 _ rfl (hcl 12 _ rfl (hcl 13 _ rfl (hcl 14 _ rfl (hcl 15 _ rfl (hcl 17 _ rfl hdl ⟨15, .data⟩ (by simp) rfl) ⟨14, .data⟩ (by simp) rfl) ⟨13, .data⟩ (by simp) rfl) ⟨12, .data⟩ (by simp) rfl) ⟨11, .data⟩ (by simp) rfl) ⟨7, .data⟩ (by simp) rfl) ⟨6, .data⟩ (by simp) rfl).symm.trans hdk) (by decide)
                have hdz := hid hdf
                clear  hdk haft hcl hdf
                go_wp2
                exact thenK_n ⟨_, _, _, _, _, _, _, _, _, _, _, _, _, _, _, _, _, rfl, .inl ⟨kd rfl hdz, hid (HB.out.trans ((Below.refl w9.heap.size w9).mono HB.out.size)), kf rfl f0 (fun h => (by first | exact h | exact rfl)), kf rfl f1 (fun h => (by first | exact h | exact rfl)), kf rfl f2 (fun h => (by first | exact h | exact rfl)), kf rfl f3 (fun h => fun h15 => own_belowS (h (unupd rfl h15)) (Below.refl w9.heap.size w9)), kf rfl f4 (fun h => (by first | exact h | exact rfl)), kf rfl f5 (fun h => (by first | exact h | exact rfl)), nf (rfl), kf rfl f7 (fun h => (by first | exact h | exact rfl)), kf rfl f8 (fun h => (by first | exact h | exact rfl)), kf rfl f9 (fun h => (by first | exact h | exact rfl)), kf rfl f10 (fun h => (by first | exact h | exact rfl)), kf rfl f11 (fun h => (by first | exact h | exact rfl)), kf rfl f12 (fun h => (by first | exact h | exact rfl)), kf rfl f13 (fun h => (by first | exact h | exact rfl)), kf rfl f14 (fun h => (by obtain ⟨g, e1, e2⟩ := h; exact ⟨g, e1, fun h15 => res_keep' (e2 (unupd rfl h15)) (Below.refl w9.heap.size w9) (lt_of_block (e2 (unupd rfl h15)))⟩)), kf rfl f15 (fun h => (by obtain ⟨gu, cap, e1, e2⟩ := h; exact ⟨gu, cap, e1, own_belowS e2 (Below.refl w9.heap.size w9)⟩)), kf rfl f16 (fun h => (by first | exact h | exact rfl))⟩⟩
              · rintro d ac w9 ⟨x38, x39, x40, x41, x42, x43, x44, x45, x46, x47, x48, x49, x50, x51, x52, x53, x54, rfl, hI⟩ hcl hdk haft
                rcases hI with ⟨hdf, HB, f0, f1, f2, f3, f4, f5, f6, f7, f8, f9, f10, f11, f12, f13, f14, f15, f16⟩ | ⟨hdl, _⟩
                rotate_left
                · exact absurd ((hcl 11 _ rfl (hcl 12 _ rfl (hcl 13 _ rfl (hcl 14 _ rfl (hcl 15 _ rfl (hcl 17 _ rfl hdl ⟨15, .data⟩ (by simp) rfl) ⟨14, .data⟩ (by simp) rfl) ⟨13, .data⟩ (by simp) rfl) ⟨12, .data⟩ (by simp) rfl) ⟨11, .data⟩ (by simp) rfl) ⟨7, .data⟩ (by simp) rfl).symm.trans hdk) (by decide)
                have h6 := haft ⟨6, .data⟩ (by simp) rfl
                obtain rfl := f6.out h6
                have hdz := hid hdf
                clear h6 hdk haft hcl hdf
                go_wp2
                exact thenK_n ⟨_, _, _, _, _, _, _, _, _, _, _, _, _, _, _, _, _, rfl, .inl ⟨kd rfl hdz, hid (HB.out.trans ((Below.refl w9.heap.size w9).mono HB.out.size)), kf rfl f0 (fun h => (by first | exact h | exact rfl)), kf rfl f1 (fun h => (by first | exact h | exact rfl)), kf rfl f2 (fun h => (by first | exact h | exact rfl)), kf rfl f3 (fun h => fun h15 => own_belowS (h (unupd rfl h15)) (Below.refl w9.heap.size w9)), kf rfl f4 (fun h => (by first | exact h | exact rfl)), kf rfl f5 (fun h => (by first | exact h | exact rfl)), kf rfl f6 (fun h => (by first | exact h | exact rfl)), nf (rfl), kf rfl f8 (fun h => (by first | exact h | exact rfl)), kf rfl f9 (fun h => (by first | exact h | exact rfl)), kf rfl f10 (fun h => (by first | exact h | exact rfl)), kf rfl f11 (fun h => (by first | exact h | exact rfl)), kf rfl f12 (fun h => (by first | exact h | exact rfl)), kf rfl f13 (fun h => (by first | exact h | exact rfl)), kf rfl f14 (fun h => (by obtain ⟨g, e1, e2⟩ := h; exact ⟨g, e1, fun h15 => res_keep' (e2 (unupd rfl h15)) (Below.refl w9.heap.size w9) (lt_of_block (e2 (unupd rfl h15)))⟩)), kf rfl f15 (fun h => (by obtain ⟨gu, cap, e1, e2⟩ := h; exact ⟨gu, cap, e1, own_belowS e2 (Below.refl w9.heap.size w9)⟩)), kf rfl f16 (fun h => (by first | exact h | exact rfl))⟩⟩
              · rintro d ac w9 ⟨x38, x39, x40, x41, x42, x43, x44, x45, x46, x47, x48, x49, x50, x51, x52, x53, x54, rfl, hI⟩ hcl hdk haft
                rcases hI with ⟨hdf, HB, f0, f1, f2, f3, f4, f5, f6, f7, f8, f9, f10, f11, f12, f13, f14, f15, f16⟩ | ⟨hdl, _⟩
                rotate_left
                · exact absurd ((hcl 9 _ rfl (hcl 10 _ rfl (hcl 11 _ rfl (hcl 12 _ rfl (hcl 13 _ rfl (hcl 14 _ rfl (hcl 15 _ rfl (hcl 17 _ rfl hdl ⟨15, .data⟩ (by simp) rfl) ⟨14, .data⟩ (by simp) rfl) ⟨13, .data⟩ (by simp) rfl) ⟨12, .data⟩ (by simp) rfl) ⟨11, .data⟩ (by simp) rfl) ⟨10, .data⟩ (by simp) rfl) ⟨9, .data⟩ (by simp) rfl) ⟨8, .data⟩ (by simp) rfl).symm.trans hdk) (by decide)
                have hdz := hid hdf
                clear  hdk haft hcl hdf
                go_wp2
                exact thenK_n ⟨_, _, _, _, _, _, _, _, _, _, _, _, _, _, _, _, _, rfl, .inl ⟨kd rfl hdz, hid (HB.out.trans ((Below.refl w9.heap.size w9).mono HB.out.size)), kf rfl f0 (fun h => (by first | exact h | exact rfl)), kf rfl f1 (fun h => (by first | exact h | exact rfl)), kf rfl f2 (fun h => (by first | exact h | exact rfl)), kf rfl f3 (fun h => fun h15 => own_belowS (h (unupd rfl h15)) (Below.refl w9.heap.size w9)), kf rfl f4 (fun h => (by first | exact h | exact rfl)), kf rfl f5 (fun h => (by first | exact h | exact rfl)), kf rfl f6 (fun h => (by first | exact h | exact rfl)), kf rfl f7 (fun h => (by first | exact h | exact rfl)), nf (rfl), kf rfl f9 (fun h => (by first | exact h | exact rfl)), kf rfl f10 (fun h => (by first | exact h | exact rfl)), kf rfl f11 (fun h => (by first | exact h | exact rfl)), kf rfl f12 (fun h => (by first | exact h | exact rfl)), kf rfl f13 (fun h => (by first | exact h | exact rfl)), kf rfl f14 (fun h => (by obtain ⟨g, e1, e2⟩ := h; exact ⟨g, e1, fun h15 => res_keep' (e2 (unupd rfl h15)) (Below.refl w9.heap.size w9) (lt_of_block (e2 (unupd rfl h15)))⟩)), kf rfl f15 (fun h => (by obtain ⟨gu, cap, e1, e2⟩ := h; exact ⟨gu, cap, e1, own_belowS e2 (Below.refl w9.heap.size w9)⟩)), kf rfl f16 (fun h => (by first | exact h | exact rfl))⟩⟩
              · rintro d ac w9 ⟨x38, x39, x40, x41, x42, x43, x44, x45, x46, x47, x48, x49, x50, x51, x52, x53, x54, rfl, hI⟩ hcl hdk haft
                rcases hI with ⟨hdf, HB, f0, f1, f2, f3, f4, f5, f6, f7, f8, f9, f10, f11, f12, f13, f14, f15, f16⟩ | ⟨hdl, _⟩
                rotate_left
                · exact absurd ((hcl 10 _ rfl (hcl 11 _ rfl (hcl 12 _ rfl (hcl 13 _ rfl (hcl 14 _ rfl (hcl 15 _ rfl (hcl 17 _ rfl hdl ⟨15, .data⟩ (by simp) rfl) ⟨14, .data⟩ (by simp) rfl) ⟨13, .data⟩ (by simp) rfl) ⟨12, .data⟩ (by simp) rfl) ⟨11, .data⟩ (by simp) rfl) ⟨10, .data⟩ (by simp) rfl) ⟨9, .data⟩ (by simp) rfl).symm.trans hdk) (by decide)
                have h8 := haft ⟨8, .data⟩ (by simp) rfl
                obtain rfl := f8.out h8
                have hdz := hid hdf
                have q3 := cell_keep HB.out Q3.out
                have qlt : w.heap.size < w9.heap.size := by have := HB.out.size; have := QL.out; omega
                clear h8 hdk haft hcl hdf
                go_wp2
                exact thenK_n ⟨_, _, _, _, _, _, _, _, _, _, _, _, _, _, _, _, _, rfl, .inl ⟨kd rfl hdz, hid (HB.out.trans ((Below.refl w9.heap.size w9).mono HB.out.size)), kf rfl f0 (fun h => (by first | exact h | exact rfl)), kf rfl f1 (fun h => (by first | exact h | exact rfl)), kf rfl f2 (fun h => (by first | exact h | exact rfl)), kf rfl f3 (fun h => fun h15 => own_belowS (h (unupd rfl h15)) (Below.refl w9.heap.size w9)), kf rfl f4 (fun h => (by first | exact h | exact rfl)), kf rfl f5 (fun h => (by first | exact h | exact rfl)), kf rfl f6 (fun h => (by first | exact h | exact rfl)), kf rfl f7 (fun h => (by first | exact h | exact rfl)), kf rfl f8 (fun h => (by first | exact h | exact rfl)), nf (rfl), kf rfl f10 (fun h => (by first | exact h | exact rfl)), kf rfl f11 (fun h => (by first | exact h | exact rfl)), kf rfl f12 (fun h => (by first | exact h | exact rfl)), kf rfl f13 (fun h => (by first | exact h | exact rfl)), kf rfl f14 (fun h => (by obtain ⟨g, e1, e2⟩ := h; exact ⟨g, e1, fun h15 => res_keep' (e2 (unupd rfl h15)) (Below.refl w9.heap.size w9) (lt_of_block (e2 (unupd rfl h15)))⟩)), kf rfl f15 (fun h => (by obtain ⟨gu, cap, e1, e2⟩ := h; exact ⟨gu, cap, e1, own_belowS e2 (Below.refl w9.heap.size w9)⟩)), kf rfl f16 (fun h => (by first | exact h | exact rfl))⟩⟩
              · rintro d ac w9 ⟨x38, x39, x40, x41, x42, x43, x44, x45, x46, x47, x48, x49, x50, x51, x52, x53, x54, rfl, hI⟩ hcl hdk haft
                rcases hI with ⟨hdf, HB, f0, f1, f2, f3, f4, f5, f6, f7, f8, f9, f10, f11, f12, f13, f14, f15, f16⟩ | ⟨hdl, _⟩
                rotate_left
                · exact absurd ((hcl 11 _ rfl (hcl 12 _ rfl (hcl 13 _ rfl (hcl 14 _ rfl (hcl 15 _ rfl (hcl 17 _ rfl hdl ⟨15, .data⟩ (by simp) rfl) ⟨14, .data⟩ (by simp) rfl) ⟨13, .data⟩ (by simp) rfl) ⟨12, .data⟩ (by simp) rfl) ⟨11, .data⟩ (by simp) rfl) ⟨10, .data⟩ (by simp) rfl).symm.trans hdk) (by decide)
                have h9 := haft ⟨9, .data⟩ (by simp) rfl
                obtain rfl := f9.out h9
                have hdz := hid hdf
                clear h9 hdk haft hcl hdf
                go_wp2
                exact thenK_n ⟨_, _, _, _, _, _, _, _, _, _, _, _, _, _, _, _, _, rfl, .inl ⟨kd rfl hdz, hid (HB.out.trans ((Below.refl w9.heap.size w9).mono HB.out.size)), kf rfl f0 (fun h => (by first | exact h | exact rfl)), kf rfl f1 (fun h => (by first | exact h | exact rfl)), kf rfl f2 (fun h => (by first | exact h | exact rfl)), kf rfl f3 (fun h => fun h15 => own_belowS (h (unupd rfl h15)) (Below.refl w9.heap.size w9)), kf rfl f4 (fun h => (by first | exact h | exact rfl)), kf rfl f5 (fun h => (by first | exact h | exact rfl)), kf rfl f6 (fun h => (by first | exact h | exact rfl)), kf rfl f7 (fun h => (by first | exact h | exact rfl)), kf rfl f8 (fun h => (by first | exact h | exact rfl)), kf rfl f9 (fun h => (by first | exact h | exact rfl)), nf (rfl), kf rfl f11 (fun h => (by first | exact h | exact rfl)), kf rfl f12 (fun h => (by first | exact h | exact rfl)), kf rfl f13 (fun h => (by first | exact h | exact rfl)), kf rfl f14 (fun h => (by obtain ⟨g, e1, e2⟩ := h; exact ⟨g, e1, fun h15 => res_keep' (e2 (unupd rfl h15)) (Below.refl w9.heap.size w9) (lt_of_block (e2 (unupd rfl h15)))⟩)), kf rfl f15 (fun h => (by obtain ⟨gu, cap, e1, e2⟩ := h; exact ⟨gu, cap, e1, own_belowS e2 (Below.refl w9.heap.size w9)⟩)), kf rfl f16 (fun h => (by first | exact h | exact rfl))⟩⟩
              · rintro d ac w9 ⟨x38, x39, x40, x41, x42, x43, x44, x45, x46, x47, x48, x49, x50, x51, x52, x53, x54, rfl, hI⟩ hcl hdk haft
                rcases hI with ⟨hdf, HB, f0, f1, f2, f3, f4, f5, f6, f7, f8, f9, f10, f11, f12, f13, f14, f15, f16⟩ | ⟨hdl, _⟩
                rotate_left
                · exact absurd ((hcl 12 _ rfl (hcl 13 _ rfl (hcl 14 _ rfl (hcl 15 _ rfl (hcl 17 _ rfl hdl ⟨15, .data⟩ (by simp) rfl) ⟨14, .data⟩ (by simp) rfl) ⟨13, .data⟩ (by simp) rfl) ⟨12, .data⟩ (by simp) rfl) ⟨11, .data⟩ (by simp) rfl).symm.trans hdk) (by decide)
                have h7 := haft ⟨7, .data⟩ (by simp) rfl
                have h10 := haft ⟨10, .data⟩ (by simp) rfl
                obtain rfl := f7.out h7
                obtain rfl := f10.out h10
                have hdz := hid hdf
                have hr0 := HNL.out
                have hr1 : ((rs.length : Int) == 0) = false := by simpa using hn0
                have hr2 : Int.tmod (iv : Int) (rs.length : Int) = (jn : Int) := by rw [← HJN.out]; rfl
                clear h7 h10 hdk haft hcl hdf
                go_wp2
                exact thenK_n ⟨_, _, _, _, _, _, _, _, _, _, _, _, _, _, _, _, _, rfl, .inl ⟨kd rfl hdz, hid (HB.out.trans ((Below.refl w9.heap.size w9).mono HB.out.size)), kf rfl f0 (fun h => (by first | exact h | exact rfl)), kf rfl f1 (fun h => (by first | exact h | exact rfl)), kf rfl f2 (fun h => (by first | exact h | exact rfl)), kf rfl f3 (fun h => fun h15 => own_belowS (h (unupd rfl h15)) (Below.refl w9.heap.size w9)), kf rfl f4 (fun h => (by first | exact h | exact rfl)), kf rfl f5 (fun h => (by first | exact h | exact rfl)), kf rfl f6 (fun h => (by first | exact h | exact rfl)), kf rfl f7 (fun h => (by first | exact h | exact rfl)), kf rfl f8 (fun h => (by first | exact h | exact rfl)), kf rfl f9 (fun h => (by first | exact h | exact rfl)), kf rfl f10 (fun h => (by first | exact h | exact rfl)), nf (rfl), kf rfl f12 (fun h => (by first | exact h | exact rfl)), kf rfl f13 (fun h => (by first | exact h | exact rfl)), kf rfl f14 (fun h => (by obtain ⟨g, e1, e2⟩ := h; exact ⟨g, e1, fun h15 => res_keep' (e2 (unupd rfl h15)) (Below.refl w9.heap.size w9) (lt_of_block (e2 (unupd rfl h15)))⟩)), kf rfl f15 (fun h => (by obtain ⟨gu, cap, e1, e2⟩ := h; exact ⟨gu, cap, e1, own_belowS e2 (Below.refl w9.heap.size w9)⟩)), kf rfl f16 (fun h => (by first | exact h | exact rfl))⟩⟩
              · rintro d ac w9 ⟨x38, x39, x40, x41, x42, x43, x44, x45, x46, x47, x48, x49, x50, x51, x52, x53, x54, rfl, hI⟩ hcl hdk haft
                rcases hI with ⟨hdf, HB, f0, f1, f2, f3, f4, f5, f6, f7, f8, f9, f10, f11, f12, f13, f14, f15, f16⟩ | ⟨hdl, _⟩
                rotate_left
                · exact absurd ((hcl 13 _ rfl (hcl 14 _ rfl (hcl 15 _ rfl (hcl 17 _ rfl hdl ⟨15, .data⟩ (by simp) rfl) ⟨14, .data⟩ (by simp) rfl) ⟨13, .data⟩ (by simp) rfl) ⟨12, .data⟩ (by simp) rfl).symm.trans hdk) (by decide)
                have h5 := haft ⟨5, .data⟩ (by simp) rfl
                have h11 := haft ⟨11, .data⟩ (by simp) rfl
                obtain rfl := f5.out h5
                obtain rfl := f11.out h11
                have hdz := hid hdf
                have hj0 : (0 : Int) ≤ (jn : Int) := by omega
                have hj1 : (jn : Int) < (rs.length : Int) := by omega
                clear h5 h11 hdk haft hcl hdf
                go_wp2
                exact thenK_n ⟨_, _, _, _, _, _, _, _, _, _, _, _, _, _, _, _, _, rfl, .inl ⟨kd rfl hdz, hid (HB.out.trans ((Below.refl w9.heap.size w9).mono HB.out.size)), kf rfl f0 (fun h => (by first | exact h | exact rfl)), kf rfl f1 (fun h => (by first | exact h | exact rfl)), kf rfl f2 (fun h => (by first | exact h | exact rfl)), kf rfl f3 (fun h => fun h15 => own_belowS (h (unupd rfl h15)) (Below.refl w9.heap.size w9)), kf rfl f4 (fun h => (by first | exact h | exact rfl)), kf rfl f5 (fun h => (by first | exact h | exact rfl)), kf rfl f6 (fun h => (by first | exact h | exact rfl)), kf rfl f7 (fun h => (by first | exact h | exact rfl)), kf rfl f8 (fun h => (by first | exact h | exact rfl)), kf rfl f9 (fun h => (by first | exact h | exact rfl)), kf rfl f10 (fun h => (by first | exact h | exact rfl)), kf rfl f11 (fun h => (by first | exact h | exact rfl)), nf (rfl), kf rfl f13 (fun h => (by first | exact h | exact rfl)), kf rfl f14 (fun h => (by obtain ⟨g, e1, e2⟩ := h; exact ⟨g, e1, fun h15 => res_keep' (e2 (unupd rfl h15)) (Below.refl w9.heap.size w9) (lt_of_block (e2 (unupd rfl h15)))⟩)), kf rfl f15 (fun h => (by obtain ⟨gu, cap, e1, e2⟩ := h; exact ⟨gu, cap, e1, own_belowS e2 (Below.refl w9.heap.size w9)⟩)), kf rfl f16 (fun h => (by first | exact h | exact rfl))⟩⟩
              · rintro d ac w9 ⟨x38, x39, x40, x41, x42, x43, x44, x45, x46, x47, x48, x49, x50, x51, x52, x53, x54, rfl, hI⟩ hcl hdk haft
                rcases hI with ⟨hdf, HB, f0, f1, f2, f3, f4, f5, f6, f7, f8, f9, f10, f11, f12, f13, f14, f15, f16⟩ | ⟨hdl, _⟩
                rotate_left
                · exact absurd ((hcl 14 _ rfl (hcl 15 _ rfl (hcl 17 _ rfl hdl ⟨15, .data⟩ (by simp) rfl) ⟨14, .data⟩ (by simp) rfl) ⟨13, .data⟩ (by simp) rfl).symm.trans hdk) (by decide)
                have h12 := haft ⟨12, .data⟩ (by simp) rfl
                obtain rfl := f12.out h12
                have hdz := hid hdf
                have v0 := cell_keep HB.out V0.out
                have v1 := cell_keep HB.out V1.out
                have vlt : bR < w9.heap.size := cell_lt v0
                clear h12 hdk haft hcl hdf
                go_wp2
                exact thenK_n ⟨_, _, _, _, _, _, _, _, _, _, _, _, _, _, _, _, _, rfl, .inl ⟨kd rfl hdz, hid (HB.out.trans ((Below.refl w9.heap.size w9).mono HB.out.size)), kf rfl f0 (fun h => (by first | exact h | exact rfl)), kf rfl f1 (fun h => (by first | exact h | exact rfl)), kf rfl f2 (fun h => (by first | exact h | exact rfl)), kf rfl f3 (fun h => fun h15 => own_belowS (h (unupd rfl h15)) (Below.refl w9.heap.size w9)), kf rfl f4 (fun h => (by first | exact h | exact rfl)), kf rfl f5 (fun h => (by first | exact h | exact rfl)), kf rfl f6 (fun h => (by first | exact h | exact rfl)), kf rfl f7 (fun h => (by first | exact h | exact rfl)), kf rfl f8 (fun h => (by first | exact h | exact rfl)), kf rfl f9 (fun h => (by first | exact h | exact rfl)), kf rfl f10 (fun h => (by first | exact h | exact rfl)), kf rfl f11 (fun h => (by first | exact h | exact rfl)), kf rfl f12 (fun h => (by first | exact h | exact rfl)), nf (rfl), kf rfl f14 (fun h => (by obtain ⟨g, e1, e2⟩ := h; exact ⟨g, e1, fun h15 => res_keep' (e2 (unupd rfl h15)) (Below.refl w9.heap.size w9) (lt_of_block (e2 (unupd rfl h15)))⟩)), kf rfl f15 (fun h => (by obtain ⟨gu, cap, e1, e2⟩ := h; exact ⟨gu, cap, e1, own_belowS e2 (Below.refl w9.heap.size w9)⟩)), kf rfl f16 (fun h => (by first | exact h | exact rfl))⟩⟩
              · rintro d ac w9 ⟨x38, x39, x40, x41, x42, x43, x44, x45, x46, x47, x48, x49, x50, x51, x52, x53, x54, rfl, hI⟩ hcl hdk haft
                rcases hI with ⟨hdf, HB, f0, f1, f2, f3, f4, f5, f6, f7, f8, f9, f10, f11, f12, f13, f14, f15, f16⟩ | ⟨hdl, _⟩
                rotate_left
                · exact absurd ((hcl 15 _ rfl (hcl 17 _ rfl hdl ⟨15, .data⟩ (by simp) rfl) ⟨14, .data⟩ (by simp) rfl).symm.trans hdk) (by decide)
                have h13 := haft ⟨13, .data⟩ (by simp) rfl
                obtain rfl := f13.out h13
                have hdz := hid hdf
                clear h13 hdk haft hcl hdf
                go_wp2
                exact thenK_n ⟨_, _, _, _, _, _, _, _, _, _, _, _, _, _, _, _, _, rfl, .inl ⟨kd rfl hdz, hid (HB.out.trans ((below_one w9 _).mono HB.out.size)), kf rfl f0 (fun h => (by first | exact h | exact rfl)), kf rfl f1 (fun h => (by first | exact h | exact rfl)), kf rfl f2 (fun h => (by first | exact h | exact rfl)), kf rfl f3 (fun h => fun h15 => own_belowS (h (unupd rfl h15)) (below_one w9 _)), kf rfl f4 (fun h => (by first | exact h | exact rfl)), kf rfl f5 (fun h => (by first | exact h | exact rfl)), kf rfl f6 (fun h => (by first | exact h | exact rfl)), kf rfl f7 (fun h => (by first | exact h | exact rfl)), kf rfl f8 (fun h => (by first | exact h | exact rfl)), kf rfl f9 (fun h => (by first | exact h | exact rfl)), kf rfl f10 (fun h => (by first | exact h | exact rfl)), kf rfl f11 (fun h => (by first | exact h | exact rfl)), kf rfl f12 (fun h => (by first | exact h | exact rfl)), kf rfl f13 (fun h => (by first | exact h | exact rfl)), nf (⟨_, rfl, fun _ => heap_alloc_new w9 _⟩), kf rfl f15 (fun h => (by obtain ⟨gu, cap, e1, e2⟩ := h; exact ⟨gu, cap, e1, own_belowS e2 (below_one w9 _)⟩)), kf rfl f16 (fun h => (by first | exact h | exact rfl))⟩⟩
              · rintro d ac w9 ⟨x38, x39, x40, x41, x42, x43, x44, x45, x46, x47, x48, x49, x50, x51, x52, x53, x54, rfl, hI⟩ hcl hdk haft
                rcases hI with ⟨hdf, HB, f0, f1, f2, f3, f4, f5, f6, f7, f8, f9, f10, f11, f12, f13, f14, f15, f16⟩ | ⟨hdl, _⟩
                rotate_left
                · exact absurd ((hcl 17 _ rfl hdl ⟨15, .data⟩ (by simp) rfl).symm.trans hdk) (by decide)
                have h3 := haft ⟨3, .data⟩ (by simp) rfl
                have h14 := haft ⟨14, .data⟩ (by simp) rfl
                obtain own3 := f3.out h3
                obtain ⟨g14, rfl, hh14⟩ := f14.out h14
                have hdz := hid hdf
                have OWN3 := hid (own3 hdk)
                have HH14 := hid (hh14 hdk)
                clear own3 hh14
                clear h3 h14 hdk haft hcl hdf
                go_wp2_with (at_builtin; refine wpList_append_own _ rfl _ _ 23 rfl wa.heap.size 46 i0 _ 2 48 Try.underlying23 hi hz0 hz1 hz2 rfl (by decide) _ rs.length _ rfl OWN3.out ⟨g14, 0, none⟩ 1 1 [.slice T n1 c1, .slice T2 n2 c2] rfl rfl (cells_two HH14.out) (ones_two _ _ _ _ _ _) (by unfold maxLen; have := HNL.out; omega) (by have := HNL.out; omega) HB.out.size ?_; intro v8 w8 hown8 hg8 _; obtain ⟨gu, cap, rfl⟩ := own_slice1 hown8)
                exact thenK_n ⟨_, _, _, _, _, _, _, _, _, _, _, _, _, _, _, _, _, rfl, .inl ⟨kd rfl hdz, hid (HB.out.grown hg8 HB.out.size (fun k e => (OWN3.out.lt k e).1)), kf rfl f0 (fun h => (by first | exact h | exact rfl)), kf rfl f1 (fun h => (by first | exact h | exact rfl)), kf rfl f2 (fun h => (by first | exact h | exact rfl)), hid (fun _ h15 => absurd h15 (fun h => upd_self h)), kf rfl f4 (fun h => (by first | exact h | exact rfl)), kf rfl f5 (fun h => (by first | exact h | exact rfl)), kf rfl f6 (fun h => (by first | exact h | exact rfl)), kf rfl f7 (fun h => (by first | exact h | exact rfl)), kf rfl f8 (fun h => (by first | exact h | exact rfl)), kf rfl f9 (fun h => (by first | exact h | exact rfl)), kf rfl f10 (fun h => (by first | exact h | exact rfl)), kf rfl f11 (fun h => (by first | exact h | exact rfl)), kf rfl f12 (fun h => (by first | exact h | exact rfl)), kf rfl f13 (fun h => (by first | exact h | exact rfl)), kf rfl f14 (fun h => (by obtain ⟨g, e1, _⟩ := h; exact ⟨g, e1, fun h15 => absurd h15 (fun h => upd_self h)⟩)), nf (⟨gu, cap, rfl, hown8⟩), kf rfl f16 (fun h => (by first | exact h | exact rfl))⟩⟩
              · rintro d ac w9 ⟨x38, x39, x40, x41, x42, x43, x44, x45, x46, x47, x48, x49, x50, x51, x52, x53, x54, rfl, hI⟩ hcl hdk haft
                rcases hI with ⟨hdf, HB, f0, f1, f2, f3, f4, f5, f6, f7, f8, f9, f10, f11, f12, f13, f14, f15, f16⟩ | ⟨hdl, _⟩
                rotate_left
                · exact absurd ((hcl 17 _ rfl hdl ⟨16, .data⟩ (by simp) rfl).symm.trans hdk) (by decide)
                have hdz := hid hdf
                clear  hdk haft hcl hdf
                go_wp2
                exact thenK_n ⟨_, _, _, _, _, _, _, _, _, _, _, _, _, _, _, _, _, rfl, .inl ⟨kd rfl hdz, hid (HB.out.trans ((Below.refl w9.heap.size w9).mono HB.out.size)), kf rfl f0 (fun h => (by first | exact h | exact rfl)), kf rfl f1 (fun h => (by first | exact h | exact rfl)), kf rfl f2 (fun h => (by first | exact h | exact rfl)), kf rfl f3 (fun h => fun h15 => own_belowS (h (unupd rfl h15)) (Below.refl w9.heap.size w9)), kf rfl f4 (fun h => (by first | exact h | exact rfl)), kf rfl f5 (fun h => (by first | exact h | exact rfl)), kf rfl f6 (fun h => (by first | exact h | exact rfl)), kf rfl f7 (fun h => (by first | exact h | exact rfl)), kf rfl f8 (fun h => (by first | exact h | exact rfl)), kf rfl f9 (fun h => (by first | exact h | exact rfl)), kf rfl f10 (fun h => (by first | exact h | exact rfl)), kf rfl f11 (fun h => (by first | exact h | exact rfl)), kf rfl f12 (fun h => (by first | exact h | exact rfl)), kf rfl f13 (fun h => (by first | exact h | exact rfl)), kf rfl f14 (fun h => (by obtain ⟨g, e1, e2⟩ := h; exact ⟨g, e1, fun h15 => res_keep' (e2 (unupd rfl h15)) (Below.refl w9.heap.size w9) (lt_of_block (e2 (unupd rfl h15)))⟩)), kf rfl f15 (fun h => (by obtain ⟨gu, cap, e1, e2⟩ := h; exact ⟨gu, cap, e1, own_belowS e2 (Below.refl w9.heap.size w9)⟩)), nf (rfl)⟩⟩
              · rintro d ac w9 ⟨x38, x39, x40, x41, x42, x43, x44, x45, x46, x47, x48, x49, x50, x51, x52, x53, x54, rfl, hI⟩ hcl hdk haft
                rcases hI with ⟨hdf, HB, f0, f1, f2, f3, f4, f5, f6, f7, f8, f9, f10, f11, f12, f13, f14, f15, f16⟩ | ⟨hdl, _⟩
                rotate_left
                · exact absurd (hdl.symm.trans hdk) (by decide)
                have h16 := haft ⟨16, .data⟩ (by simp) rfl
                have h15 := haft ⟨15, .data⟩ (by simp) rfl
                obtain rfl := f16.out h16
                obtain ⟨gu, cap, rfl, own15⟩ := f15.out h15
                have hdz := hid hdf
                have hp9 := res_keep' HP.out HB.out HSW.out
                have p3 : w9.cell? ⟨g7, 3, none⟩ = some (.slice (some ⟨bR, oR, none⟩) rs.length cr) := cell_of_heap hp9 rfl
                have fz : w9.frozen? ⟨g7, 3, none⟩ = false := by simp [World.frozen?, hp9]
                have HP9 := hid hp9
                have OW := hid own15
                have hne : (Value.slice (some ⟨gu, 0, none⟩) (rs.length + 1) cap).ownBlock ≠ some g7 := fun e => by have := (own15.lt g7 e).1; have := HSW.out; omega
                have HNE := hid hne
                have hbg : Below g7 wa w9 := HB.out.mono (by have := HSW.out; omega)
                have HBG := hid hbg
                clear hp9 own15 hne hbg
                clear h16 h15 hdk haft hcl hdf
                go_wp2
                exact thenK_n ⟨_, _, _, _, _, _, _, _, _, _, _, _, _, _, _, _, _, rfl, .inr ⟨rfl, hid ⟨gu, cap, rfl, heap_setCell_same w9 g7 3 _ _ _ HP9.out, ownsRow_setCell_other OW.out (a := ⟨g7, 3, none⟩) HNE.out _, HBG.out.setCell (p := ⟨g7, 3, none⟩) (Nat.le_refl g7) _⟩⟩⟩
            case fin =>
              rintro d ac w9 ⟨x38, x39, x40, x41, x42, x43, x44, x45, x46, x47, x48, x49, x50, x51, x52, x53, x54, rfl, hI⟩ hall
              rcases hI with ⟨hd, _⟩ | ⟨_, HE⟩
              · exact absurd ((hall 17).symm.trans hd) (by decide)
              clear hall
              obtain ⟨gu, cap, rfl, hp9, own9, hbx⟩ := HE.out
              have HP9 := hid hp9
              have OW9 := hid own9
              have HB9 := hid (HBW.out.trans (hbx.mono hgw))
              clear hp9 own9 hbx HE
              clear HBW HP HSW Q3 QL V0 V1 HBE HV0 HV1 HO1
              obtain ⟨q0, q1, q2, q3, q4, qlt, hbel⟩ := qry_cells HB9.out
              have HBL := hid hbel
              go_wp2_with fail
              refine (C3 _ (HQ.out.below hbel) (HS.out.below hbel)).out.mono ?_
              rintro e w10 ⟨H2, R2, d2, d3, rfl, k2, v2, _, _, b4⟩
              clear C3 q0 q1 q2 q3 q4 qlt hbel
              have hb11 := b4.trans ((below_one w10 (.cells #[.slice H2 ty.head.length d2, .slice R2 ty.rules.length d3] 34)).mono b4.size)
              have HB11 := hid (HBL.out.trans (hb11.mono HBL.out.size))
              have QI := again_in HQ.out (HBL.out.trans (hb11.mono HBL.out.size)) HF2.out HFC.out hjlt (by rw [HFJ.out]; exact own_belowS OW9.out hb11) (by have := HNL.out; simp only; omega)
              have C4 := chk_check (againQ ⟨hd, 0, av, rs, os⟩ rs[jn]) S A (some ⟨gu, 0, none⟩) O B ch cap co cs _ QI (HS.out.below HB11.out) (again_wf HWF.out (List.getElem_mem hjlt)) HWS.out hms HXA.out
              unfold qryV at C4
              simp only [againQ, HY.out, List.length_append, List.length_singleton] at C4
              have hp11 := res_keep' HP9.out hb11 (lt_of_block HP9.out)
              have K2 := hid (k2.below (below_one w10 (.cells #[.slice H2 ty.head.length d2, .slice R2 ty.rules.length d3] 34)))
              have ht11 := heap_alloc_new w10 (.cells #[.slice H2 ty.head.length d2, .slice R2 ty.rules.length d3] 34)
              have HC4 := hid C4
              obtain ⟨p0, p1, p2, p3, p4, plt⟩ := box_cells hp11
              have HT11 := hid ht11
              clear C4 QI k2 v2 b4 hb11 hp11 ht11 HBL
              go_upto_region 6 with fail
              generalize (w10.alloc (.cells #[.slice H2 ty.head.length d2, .slice R2 ty.rules.length d3] 34)) = w11 at *
              generalize w10.heap.size = g8 at *
              go_wp2_with fail
              refine HC4.out.mono ?_
              rintro e w12 ⟨H3, R3, d4, d5, rfl, k3, v3, _, _, b5⟩
              clear HC4 p0 p1 p2 p3 p4 plt
              have HB12 := hid (HB11.out.trans (b5.mono HB11.out.size))
              have K2' := hid (K2.out.below b5)
              have HT12 := hid (res_keep' HT11.out b5 (lt_of_block HT11.out))
              clear b5 HB11 K2 HT11 v3
              simp only at k3
              have K3 := hid (k3.below (below_one w12 (.cells #[.slice H3 ty.head.length d4, .slice R3 rl2.length d5] 34)))
              have HB13 := hid (HB12.out.trans ((below_one w12 (.cells #[.slice H3 ty.head.length d4, .slice R3 rl2.length d5] 34)).mono HB12.out.size))
              have K2 := hid (K2'.out.below (below_one w12 (.cells #[.slice H3 ty.head.length d4, .slice R3 rl2.length d5] 34)))
              have ht8 := res_keep' HT12.out (below_one w12 (.cells #[.slice H3 ty.head.length d4, .slice R3 rl2.length d5] 34)) (lt_of_block HT12.out)
              have ht10 := heap_alloc_new w12 (.cells #[.slice H3 ty.head.length d4, .slice R3 rl2.length d5] 34)
              have HT8 := hid ht8
              have HT10 := hid ht10
              clear HB12 K2' HT12 k3
              go_upto_region 7 with fail
              generalize (w12.alloc (.cells #[.slice H3 ty.head.length d4, .slice R3 rl2.length d5] 34)) = w13 at *
              generalize w12.heap.size = g10 at *
              have t80 := cell_of_heap (o := 0) (v := .slice H2 ty.head.length d2) ht8 rfl
              have t10 := cell_of_heap (o := 0) (v := .slice H3 ty.head.length d4) ht10 rfl
              have l8 := lt_of_block ht8
              have l10 := lt_of_block ht10
              clear ht8 ht10
              obtain ⟨z, hz⟩ : ∃ z, (e0 == 0) = z := ⟨_, rfl⟩
              have HZ := hid hz
              go_wp2
              clear t80 t10 l8 l10 hz
              have hdl : ty.head.length ≤ 9223372036854775807 := by
                have h1 := checkT_head_le ⟨hd, 0, av, rs, os⟩ S
                rw [HX.out] at h1
                have h2 := HL.out.2.2.2.1
                simp only at h1 h2
                omega
              have HB14 : Hid (Below w13.heap.size w13 w13) := hid (Below.refl _ _)
              go_loopw [84] (fun i wr => ∃ k : Nat, k ≤ ty.head.length ∧ i = .int .i64 k ∧ Hid (Below w13.heap.size w13 wr)) (fun i _ => ty.head.length - (intOf i).toNat)
              case atStart => exact ⟨0, by omega, rfl, HB14⟩
              case round =>
                obtain ⟨k, hk, rfl, HBk⟩ := hrel
                clear HB14
                have ht8 := res_keep' HT8.out HBk.out (lt_of_block HT8.out)
                have ht10 := res_keep' HT10.out HBk.out (lt_of_block HT10.out)
                have t80 := cell_of_heap (o := 0) (v := .slice H2 ty.head.length d2) ht8 rfl
                have t10 := cell_of_heap (o := 0) (v := .slice H3 ty.head.length d4) ht10 rfl
                have t81 := cell_of_heap (o := 1) (v := .slice R2 ty.rules.length d3) ht8 rfl
                have t11 := cell_of_heap (o := 1) (v := .slice R3 rl2.length d5) ht10 rfl
                have l8 := lt_of_block ht8
                have l10 := lt_of_block ht10
                have hbk := HB13.out.trans (HBk.out.mono HB13.out.size)
                clear ht8 ht10
                by_cases hlt : k < ty.head.length
                · obtain ⟨ba, oa, rfl, hca⟩ := K2.out (by omega)
                  obtain ⟨bh, oh, rfl, hch⟩ := K3.out (by omega)
                  have c0 := cell_keep HBk.out (hca k hlt)
                  have c1 := cell_keep HBk.out (hch k hlt)
                  obtain ⟨x, ex⟩ : ∃ x, ty.head[k] = x := ⟨_, rfl⟩
                  rw [ex] at c0 c1
                  clear hca hch ex
                  go_wp2
                  go_quiet (fail)
                  have HB2 := hid (below_drewN HBk.out nq)
                  go_wp2
                  go_roundw
                  case rel => exact ⟨k + 1, by omega, by go_num, HB2⟩
                  case measure => simp [intOf]; omega
                · by_cases he : e0 = 0
                  · have zn : (e0 != 0) = false := by simpa using he
                    have hlen := HXL.out he
                    have hx3 := HXT.out
                    have bq : ((rl2.length : Int) == (ty.rules.length : Int) + 1) = true := by rw [hlen]; simp
                    clear hlen
                    go_wp2_with fail
                    refine (AW _).out.mono ?_
                    rintro e w6 ⟨rfl, b6⟩
                    have hb6 := hbk.trans (b6.mono hbk.size)
                    clear b6
                    go_wp2
                    go_ret
                    exact ⟨rfl, hb6⟩
                  · have zn : (e0 != 0) = true := by simpa using he
                    go_wp2_with fail
                    refine (AW _).out.mono ?_
                    rintro e w6 ⟨rfl, b6⟩
                    have hb6 := hbk.trans (b6.mono hbk.size)
                    clear b6
                    go_wp2
                    go_ret
                    exact ⟨rfl, hb6⟩
          · have zg : (ga != 0) = true := by simpa using hga
            clear hn0 hga
            go_wp2_with fail
            refine (AW _).out.mono ?_
            rintro e w9 ⟨rfl, b9⟩
            have hb9 := hbel.trans (b9.mono hbel.size)
            clear b9
            go_wp2
            go_ret
            exact ⟨rfl, hb9⟩
end Go.Proofs.Ytgeapgbebbapmaa
