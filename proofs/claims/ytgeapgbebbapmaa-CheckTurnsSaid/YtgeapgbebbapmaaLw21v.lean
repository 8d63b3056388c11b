/-
  WALK: the law CheckTurns, over what awake answers; no condition but the form's on the lengths.
-/
import Derived.Test.YtgeapgbebbapmaaTurn
import Derived.Test.YtgeapgbebbapmaaReg
import Derived.Test.YtgeapgbebbapmaaRep
import Derived.Test.YtgeapgbebbapmaaLw21c5
import Derived.Test.YtgeapgbebbapmaaSzQ
import Derived.Deep.QuietTactic
import Derived.Deep.DeepCutAuto
namespace Go.Proofs.Ytgeapgbebbapmaa
open Go.RowKit

set_option maxRecDepth 100000 in
set_option maxHeartbeats 32000000 in
theorem law_turns (AW : ∀ W : World, Hid (Calls Try.prog 12 #[] W fun e w' => e = .returned (.bool true) ∧ Below W.heap.size W w'))
    (q : Qry) (S : List Sch) (A R O B : Option Addr) (ch cr co cs tv : Nat) (w : World) (hq : QryIn w q A R O ch cr co) (hs : SchsAt w B S) (hwf : q.wf) (hws : ∀ s ∈ S, s.wf) (hms : S.length ≤ 9223372036854775807) (htv : tv < 256) (hsz : ∀ r ∈ q.rules, r.sz) :
    Calls Try.prog 7 #[qryV q A R O ch cr co, .slice B S.length cs, .int .u8 tv] w fun e w' => e = .returned (.bool true) ∧ Below w.heap.size w w' := by
  obtain ⟨i0, hi, hz0, hz1, hz2⟩ := info_parts infoRul
  obtain ⟨j0, hj, hy0, hy1, hy2⟩ := info_parts infoAtmA
  have HQ := hid hq
  have HS := hid hs
  have HWF := hid hwf
  have HWS := hid hws
  have HSZ := hid (fun r hr => (hsz r hr).a)
  obtain ⟨bd, hbd⟩ : ∃ x, badB S = x := ⟨_, rfl⟩
  have HBD := hid hbd
  have C1 := fun W h => hid (law_great5 q A R O ch cr co W h)
  have C2 := fun W h => hid (law_bad S B cs W h hms hbd)
  obtain ⟨hHd, hRl, hOr, lh, lr, lo, mh, mr, mo⟩ := hq
  have HRl := hid hRl
  obtain ⟨Y, hY, _, _⟩ := nm q.aggVar
  have HY := hid hY
  unfold qryV at C1 ⊢
  simp only [hY] at C1 ⊢
  clear hbd hs hwf hws hHd hRl hOr hY lh lr lo mh mo hsz
  obtain ⟨hd, ga, av, rs, os⟩ := q
  simp only at *
  have HB0 : Hid (Below (w.heap.size + 1) (w.alloc (.cells #[.slice A hd.length ch, .int .i64 ga, .string Y, .slice R rs.length cr, .slice O os.length co] 26)) (w.alloc (.cells #[.slice A hd.length ch, .int .i64 ga, .string Y, .slice R rs.length cr, .slice O os.length co] 26))) := hid (Below.refl _ _)
  have hb0 := (qry_cells HB0.out).2.2.2.2.2.2
  go_enter Try.func7, Try.ntmps7
  go_wp2_with fail
  refine (C1 _ (HQ.out.below hb0)).out.mono ?_
  rintro e w2 ⟨hsb, b2⟩
  obtain ⟨bg, rfl, hr5⟩ := hsb
  have HR5 := hid hr5
  have HB2 := hid (HB0.out.trans (b2.mono (by simp)))
  clear C1 b2 HB0 hb0 hr5
  obtain ⟨q0, q1, q2, q3, q4, qlt, hbel⟩ := qry_cells HB2.out
  cases bg with
  | true =>
    go_wp2_with fail
    refine (AW _).out.mono ?_
    rintro e w9 ⟨rfl, b9⟩
    have hb9 := hbel.trans (b9.mono hbel.size)
    clear b9
    go_wp2
    go_ret
    exact ⟨rfl, hb9⟩
  | false =>
    go_wp2_with fail
    refine (C2 _ (HS.out.below hbel)).out.mono ?_
    rintro e w3 ⟨rfl, b3⟩
    have HB3 := hid (HB2.out.trans (b3.mono (by have := HB2.out.size; simpa using this)))
    clear C2 b3 HB2 q0 q1 q2 q3 q4 qlt hbel
    obtain ⟨q0, q1, q2, q3, q4, qlt, hbel⟩ := qry_cells HB3.out
    cases bd with
    | true =>
      go_wp2_with fail
      refine (AW _).out.mono ?_
      rintro e w9 ⟨rfl, b9⟩
      have hb9 := hbel.trans (b9.mono hbel.size)
      clear b9
      go_wp2
      go_ret
      exact ⟨rfl, hb9⟩
    | false =>
      have hr5 := HR5.out (by first | rfl | trivial)
      have hgw : w.heap.size + 1 ≤ w3.heap.size := by have := HB3.out.size; simpa using this
      have hp := heap_alloc_new w3 (.cells #[.slice A hd.length ch, .int .i64 ga, .string Y, .slice none 0 0, .slice O os.length co] 26)
      have HP0 := hid hp
      have HB4 := hid (HB3.out.alloc hgw (.cells #[.slice A hd.length ch, .int .i64 ga, .string Y, .slice none 0 0, .slice O os.length co] 26))
      have HSW := hid (show w3.heap.size < (w3.alloc (.cells #[.slice A hd.length ch, .int .i64 ga, .string Y, .slice none 0 0, .slice O os.length co] 26)).heap.size by simp)
      clear hp HB3 
      go_wp2
      clear q0 q1 q2 q3 q4 qlt hbel
      go_loopw [36] (fun i wr => ∃ (k : Nat) (u : Value) (vs ds : List Value) (ms : List Rul), k ≤ rs.length ∧ i = .int .i64 k ∧ Hid (vs.length = k ∧ ds.length = k ∧ ms.length = k) ∧ Hid (TurnedL (rs.take k) ms) ∧ Hid (wr.heap[w3.heap.size]? = some (.cells #[.slice A hd.length ch, .int .i64 ga, .string Y, u, .slice O os.length co] 26 (0, 0))) ∧ Hid (wr.ownsRow (w3.heap.size + 1) 46 2 u k ((vs.zip ds).flatMap fun p => [p.1, p.2])) ∧ Hid (OwnAs w wr (w3.heap.size + 1) vs ms) ∧ Hid (CndsS w ds ms) ∧ Hid (Below (w.heap.size + 1) (w.alloc (.cells #[.slice A hd.length ch, .int .i64 ga, .string Y, .slice R rs.length cr, .slice O os.length co] 26)) wr)) (fun i _ => rs.length - (intOf i).toNat)
      case atStart => exact ⟨0, .slice none 0 0, [], [], [], by omega, rfl, hid ⟨rfl, rfl, rfl⟩, hid TurnedL.nil, HP0, hid (World.ownsRow_nil _ _ _ _), hid OwnAs.nil, hid CndsS.nil, HB4⟩
      case round =>
        rename World => wo
        obtain ⟨k, u, vs, ds, ms, hk, rfl, HL, HTL, HP, HU, HVS, HD, HB5⟩ := hrel
        clear HP0 HB4
        obtain ⟨q0, q1, q2, q3, q4, qlt, hbel⟩ := qry_cells HB5.out
        have hsz := hbel.size
        by_cases hlt : k < rs.length
        · obtain ⟨bb, o, rfl, hc⟩ := HRl.out (by omega)
          obtain ⟨T, ct, T2, ct2, d0, d1, ha, hcn, hct, hcc, ma, mc⟩ := hc k hlt
          have hlen := HSZ.out rs[k] (List.getElem_mem hlt)
          have hturn := fun t ht => TurnedL.take_succ hlt HTL.out (t := t) ht
          replace d0 := cell_keep hbel d0
          replace d1 := cell_keep hbel d1
          obtain ⟨ru, er⟩ : ∃ r, rs[k] = r := ⟨_, rfl⟩
          rw [er] at d0 d1 ha ma mc hlen hturn hct hcn hcc
          have HCN := hid (⟨hcn, hcc, mc, ma⟩ : CndsAt w T2 ru.conds ∧ ru.conds.length ≤ ct2 ∧ ru.conds.length ≤ 9223372036854775807 ∧ ru.atoms.length ≤ 9223372036854775807)
          have HA := hid ha
          have HTURN := hid hturn
          have hlr := cell_lt d0
          clear hc er ha hcn hturn hcc mc
          by_cases hn0 : ru.atoms.length = 0
          · have h00 : ru.atoms.length = 0 := hn0
            obtain ⟨n2, hn2⟩ : ∃ n, ru.conds.length = n := ⟨_, rfl⟩
            have HN2 := hid hn2
            rw [h00] at d0
            rw [hn2] at d1
            have hnil := hid (List.eq_nil_of_length_eq_zero h00)
            clear hn0 h00 hn2 hct hlen ma HA
            go_upto_region 13 with fail
            have hS := heap_alloc_new (wo.alloc (.cells #[.slice T 0 ct, .slice T2 n2 ct2] 46)) (.cells #[.slice T 0 ct, .slice T2 n2 ct2] 46)
            have hbo9 := below_two wo (.cells #[.slice T 0 ct, .slice T2 n2 ct2] 46) (.cells #[.slice T 0 ct, .slice T2 n2 ct2] 46)
            have hgs : (wo.alloc (.cells #[.slice T 0 ct, .slice T2 n2 ct2] 46)).heap.size = wo.heap.size + 1 := by simp
            rw [hgs] at hS
            have HS9 := hid hS
            have HBo9 := hid hbo9
            clear hgs hbo9 q0 q1 q2 q3 q4 qlt d0 d1 hlr hS hsz
            generalize ((wo.alloc (.cells #[.slice T 0 ct, .slice T2 n2 ct2] 46)).alloc (.cells #[.slice T 0 ct, .slice T2 n2 ct2] 46)) = w9 at *
            have HOA : Hid (OwnA w w9 (w3.heap.size + 1) (.slice T 0 ct) ru.atoms) := hid (.inl ⟨hnil.out, T, ct, rfl⟩)
            have hp9 := res_keep' HP.out HBo9.out (lt_of_block HP.out)
            have u3 : w9.cell? ⟨w3.heap.size, 3, none⟩ = some u := cell_of_heap hp9 rfl
            have s0 : w9.cell? ⟨wo.heap.size + 1, 0, none⟩ = some (.slice T 0 ct) := cell_of_heap HS9.out rfl
            have s1 : w9.cell? ⟨wo.heap.size + 1, 1, none⟩ = some (.slice T2 n2 ct2) := cell_of_heap HS9.out rfl
            have HU9 := hid (own_belowS HU.out HBo9.out)
            have HVS9 := hid (HVS.out.below HBo9.out)
            have HP9 := hid hp9
            have hplt := lt_of_block hp9
            have hslt := lt_of_block HS9.out
            have HB9 := hid (HB5.out.trans (HBo9.out.mono (by have := HB5.out.size; simpa using this)))
            have HD9 := hid (HD.out.push (m := ru) HN2.out HCN.out.1 HCN.out.2.1 HCN.out.2.2.1 (HCN.out.2.2.2))
            have HTL9 := hid (HTURN.out _ (turned_self ru))
            clear hp9
            go_wp2_with (at_builtin; refine wpList_append_new2 Try.underlying23 hi hz0 hz1 hz2 rfl (by decide) (by decide) rfl rfl rfl HU9.out rfl rfl rfl rfl (by omega) (by omega) ?_; intro v8 w8 hown8 hg8; obtain ⟨g8, cap8, rfl⟩ := own_slice1 hown8; have hp8 := hid ((hg8.block w3.heap.size hplt (fun e => by have := (HU9.out.lt _ e.symm).1; omega)).trans HP9.out); have t8 : w8.cell? ⟨w3.heap.size, 3, none⟩ = some u := cell_of_heap hp8.out rfl; have f8 : w8.frozen? ⟨w3.heap.size, 3, none⟩ = false := by simp [World.frozen?, hp8.out])
            have HP10 := hid (heap_setCell_same w8 w3.heap.size 3 _ _ (.slice (some ⟨g8, 0, none⟩) (k + 1) cap8) hp8.out)
            have hU10 := ownsRow_setCell_other hown8 (a := ⟨w3.heap.size, 3, none⟩) (fun e => by have := (hown8.lt _ e).1; simp at this; omega) (.slice (some ⟨g8, 0, none⟩) (k + 1) cap8)
            rw [← zip_push (HL.out.1.trans HL.out.2.1.symm)] at hU10
            have HU10 := hid hU10
            have HVS10 := hid (((HVS9.out.kept HU9.out (by decide) hg8).push (m := ru) (HOA.out.kept HU9.out (by decide) hg8)).far (turn_set w8 w3.heap.size 3 (.slice (some ⟨g8, 0, none⟩) (k + 1) cap8)) (by omega))
            have hB9 := HB9.out.grown hg8 (by have := HB9.out.size; simpa using this) (fun j e => by have := (HU9.out.lt j e).1; omega)
            have HB10 := hid (hB9.setCell (p := ⟨w3.heap.size, 3, none⟩) (by show w.heap.size + 1 ≤ w3.heap.size; exact hgw) (.slice (some ⟨g8, 0, none⟩) (k + 1) cap8))
            have HL10 := hid (⟨by simp [HL.out.1], by simp [HL.out.2.1], by simp [HL.out.2.2]⟩ : (vs ++ [(.slice T 0 ct : Value)]).length = k + 1 ∧ (ds ++ [(Value.slice T2 n2 ct2)]).length = k + 1 ∧ (ms ++ [(ru : Rul)]).length = k + 1)
            clear hown8 hg8 hp8 t8 f8 hU10 hB9 HVS9 HU9 HB9 HVS HU HD HTL HP HOA
            go_wp2
            go_roundw
            case rel => exact ⟨k + 1, _, _, _, _, by omega, by go_num, HL10, HTL9, HP10, HU10, HVS10, HD9, HB10⟩
            case measure => simp [intOf]; omega
          · have hn1 : 0 < ru.atoms.length := by omega
            obtain ⟨kk, hkk⟩ : ∃ j, tv % ru.atoms.length = j := ⟨_, rfl⟩
            have hkl : kk < ru.atoms.length := by rw [← hkk]; exact Nat.mod_lt _ hn1
            have hr2 : Int.tmod (tv : Int) (ru.atoms.length : Int) = (kk : Int) := by rw [← hkk]; rfl
            have hr1 : ((ru.atoms.length : Int) == 0) = false := by simpa using hn0
            clear hkk
            obtain ⟨bT, oT, f, rfl, hf3, hfC, _, hfl⟩ := (atmsC.1 HA.out).read hn1
            have HF3 := hid hf3
            have HFC := hid hfC
            have HO1 := hid (flat_one (f := f) (n := ru.atoms.length) (fun i hi => (hfC i hi).one))
            have HFL := hid hfl
            obtain ⟨n, hn⟩ : ∃ n, ru.atoms.length = n := ⟨_, rfl⟩
            obtain ⟨n2, hn2⟩ : ∃ n, ru.conds.length = n := ⟨_, rfl⟩
            have HN := hid hn
            have HN2 := hid hn2
            rw [hn] at hct hlen hn1 hkl hr1 hr2 HO1 HFL d0
            rw [hn2] at d1
            have hck : ¬ ct = kk := by omega
            clear hf3 hfC hfl hn hn2 hn0
            go_upto_region 12 with fail
            have hS := heap_alloc_new (wo.alloc (.cells #[.slice (some ⟨bT, oT, none⟩) n ct, .slice T2 n2 ct2] 46)) (.cells #[.slice (some ⟨bT, oT, none⟩) n ct, .slice T2 n2 ct2] 46)
            have hR := res_keep' (heap_alloc_new wo (.cells #[.slice (some ⟨bT, oT, none⟩) n ct, .slice T2 n2 ct2] 46)) (below_one (wo.alloc (.cells #[.slice (some ⟨bT, oT, none⟩) n ct, .slice T2 n2 ct2] 46)) (.cells #[.slice (some ⟨bT, oT, none⟩) n ct, .slice T2 n2 ct2] 46)) (by simp)
            have hbwa := below_two wo (.cells #[.slice (some ⟨bT, oT, none⟩) n ct, .slice T2 n2 ct2] 46) (.cells #[.slice (some ⟨bT, oT, none⟩) n ct, .slice T2 n2 ct2] 46)
            have hgs : (wo.alloc (.cells #[.slice (some ⟨bT, oT, none⟩) n ct, .slice T2 n2 ct2] 46)).heap.size = wo.heap.size + 1 := by simp
            rw [hgs] at hS
            have hga := lt_of_block hS
            have HBWA := hid (hbel.trans (hbwa.mono hsz))
            have HWoA := hid hbwa
            clear hgs hbwa q0 q1 q2 q3 q4 qlt d0 d1 hlr
            generalize ((wo.alloc (.cells #[.slice (some ⟨bT, oT, none⟩) n ct, .slice T2 n2 ct2] 46)).alloc (.cells #[.slice (some ⟨bT, oT, none⟩) n ct, .slice T2 n2 ct2] 46)) = wa at *
            have HSB := hid hS
            have HRB := hid hR
            have HGA := hid hga
            clear hS hR hga
            refine wp_region_inv2 (fun d ac w9 => ∃ x50 x51 x52 x53 x54 x55 x56 x57 x58 x59 x60 x61 : Value, ac = { tmps := List.toArray ((Value.agg #[Value.slice A hd.length ch, Value.int IntKind.i64 ga, Value.string Y, Value.slice (some ⟨bb, o, none⟩) rs.length cr, Value.slice O os.length co]) :: (Value.slice B S.length cs) :: (Value.int IntKind.u8 ↑tv) :: (Value.pointer (some { block := w.heap.size, off := 0 })) :: undef :: undef :: (Value.bool false) :: (Value.pointer (some { block := w3.heap.size, off := 0 })) :: undef :: (Value.pointer (some { block := wo.heap.size, off := 0 })) :: (Value.pointer (some { block := wo.heap.size + 1, off := 0 })) :: (Value.int IntKind.i64 ↑n) :: (Value.int IntKind.i64 ↑kk) :: undef :: undef :: undef :: undef :: undef :: undef :: undef :: undef :: undef :: undef :: undef :: (Value.agg #[Value.slice A hd.length ch, Value.int IntKind.i64 ga, Value.string Y, Value.slice (some ⟨bb, o, none⟩) rs.length cr, Value.slice O os.length co]) :: (Value.bool false) :: (Value.bool false) :: (Value.slice B S.length cs) :: (Value.bool false) :: (Value.bool false) :: undef :: (Value.agg #[Value.slice A hd.length ch, Value.int IntKind.i64 ga, Value.string Y, Value.slice (some ⟨bb, o, none⟩) rs.length cr, Value.slice O os.length co]) :: (Value.pointer (some { block := w3.heap.size, off := 3 })) :: (Value.pointer (some { block := w.heap.size, off := 3 })) :: (Value.slice (some ⟨bb, o, none⟩) rs.length cr) :: (Value.int IntKind.i64 ↑rs.length) :: (Value.int IntKind.i64 ↑k) :: (Value.bool true) :: (Value.pointer (some { block := bb, off := o + k * 2 })) :: (Value.agg #[Value.slice (some ⟨bT, oT, none⟩) n ct, Value.slice T2 n2 ct2]) :: (Value.agg #[Value.slice (some ⟨bT, oT, none⟩) n ct, Value.slice T2 n2 ct2]) :: (Value.pointer (some { block := wo.heap.size, off := 0 })) :: (Value.slice (some ⟨bT, oT, none⟩) n ct) :: (Value.int IntKind.i64 ↑n) :: (Value.int IntKind.i64 ↑n) :: (Value.bool true) :: (Value.int IntKind.u8 ↑tv) :: (Value.int IntKind.i64 ↑tv) :: (Value.int IntKind.i64 ↑n) :: (Value.int IntKind.i64 ↑kk) :: x50 :: x51 :: x52 :: x53 :: x54 :: x55 :: x56 :: x57 :: x58 :: x59 :: x60 :: x61 :: u62 :: u63 :: u64 :: u65 :: u66 :: u67 :: u68 :: undef :: undef :: undef :: undef :: undef :: undef :: undef :: undef :: undef :: undef :: undef :: undef :: undef :: undef :: undef :: undef :: undef :: undef :: undef :: undef :: undef :: undef :: undef :: undef :: undef :: undef :: undef :: undef :: undef :: undef :: undef :: undef :: undef :: undef :: undef :: undef :: undef :: undef :: undef :: undef :: undef :: undef :: undef :: undef :: undef :: undef :: undef :: undef :: undef :: undef :: undef :: undef :: undef :: undef :: undef :: undef :: undef :: undef :: undef :: undef :: undef :: undef :: undef :: undef :: undef :: undef :: undef :: undef :: undef :: undef :: undef :: undef :: undef :: undef :: undef :: undef :: undef :: undef :: undef :: undef :: undef :: undef :: undef :: undef :: undef :: undef :: undef :: undef :: undef :: undef :: undef :: undef :: undef :: undef :: undef :: undef :: undef :: undef :: undef :: undef :: undef :: undef :: undef :: undef :: undef :: undef :: undef :: undef :: undef :: []), defers := [] } ∧ ((d 12 = false ∧ Hid (Below wa.heap.size wa w9) ∧ Hid (d 0 = true → ∃ g, x50 = .slice (some ⟨g, 0, none⟩) 0 0) ∧ Hid (d 1 = true → x51 = .pointer (some ⟨wo.heap.size, 0, none⟩)) ∧ Hid (d 2 = true → x52 = .slice (some ⟨bT, oT, none⟩) n ct) ∧ Hid (d 3 = true → x53 = .int .i64 (kk : Int)) ∧ Hid (d 4 = true → x54 = .slice (some ⟨bT, oT + kk * 3, none⟩) (n - kk) (ct - kk)) ∧ Hid (d 5 = true → d 10 = false → w9.ownsRow wa.heap.size 51 3 x55 (n - kk) ((List.range (n - kk)).flatMap fun i => f (kk + i))) ∧ Hid (d 6 = true → x56 = .pointer (some ⟨wo.heap.size, 0, none⟩)) ∧ Hid (d 7 = true → x57 = .slice (some ⟨bT, oT, none⟩) n ct) ∧ Hid (d 8 = true → x58 = .int .i64 (kk : Int)) ∧ Hid (d 9 = true → x59 = .slice (some ⟨bT, oT, none⟩) kk ct) ∧ Hid (d 10 = true → ∃ gu cap, x60 = .slice (some ⟨gu, 0, none⟩) n cap ∧ w9.ownsRow wa.heap.size 51 3 (.slice (some ⟨gu, 0, none⟩) n cap) n (((List.range (n - kk)).flatMap fun i => f (kk + i)) ++ ((List.range kk).flatMap f))) ∧ Hid (d 11 = true → x61 = .pointer (some ⟨wo.heap.size + 1, 0, none⟩))) ∨ (d 12 = true ∧ Hid (∃ gu cap, x60 = .slice (some ⟨gu, 0, none⟩) n cap ∧ w9.heap[(wo.heap.size + 1)]? = some (.cells #[.slice (some ⟨gu, 0, none⟩) n cap, .slice T2 n2 ct2] 46 (0, 0)) ∧ w9.ownsRow wa.heap.size 51 3 (.slice (some ⟨gu, 0, none⟩) n cap) n (((List.range (n - kk)).flatMap fun i => f (kk + i)) ++ ((List.range kk).flatMap f)) ∧ Below (wo.heap.size + 1) wa w9)))) (by kernel_rfl) (by kernel_rfl) ?h0 ?hst ?fin
            case h0 => exact ⟨_, _, _, _, _, _, _, _, _, _, _, _, rfl, .inl ⟨rfl, hid (Below.drew (Below.refl _ _)), fun h => absurd h (by decide), fun h => absurd h (by decide), fun h => absurd h (by decide), fun h => absurd h (by decide), fun h => absurd h (by decide), fun h => absurd h (by decide), fun h => absurd h (by decide), fun h => absurd h (by decide), fun h => absurd h (by decide), fun h => absurd h (by decide), fun h => absurd h (by decide), fun h => absurd h (by decide)⟩⟩
            case hst =>
              refine ⟨?_, ?_, ?_, ?_, ?_, ?_, ?_, ?_, ?_, ?_, ?_, ?_, ?_, trivial⟩
              · rintro d ac w9 ⟨x50, x51, x52, x53, x54, x55, x56, x57, x58, x59, x60, x61, rfl, hI⟩ hcl hdk haft
                rcases hI with ⟨hdf, HB, f0, f1, f2, f3, f4, f5, f6, f7, f8, f9, f10, f11⟩ | ⟨hdl, _⟩
                rotate_left
                · exact absurd ((hcl 5 _ rfl (hcl 10 _ rfl (hcl 12 _ rfl hdl ⟨10, .data⟩ (by simp) rfl) ⟨5, .data⟩ (by simp) rfl) ⟨0, .data⟩ (by simp) rfl).symm.trans hdk) (by decide)
                have hdz := hid hdf
                clear  hdk haft hcl hdf
                go_wp2
                exact thenK_n ⟨_, _, _, _, _, _, _, _, _, _, _, _, rfl, .inl ⟨kd rfl hdz, hid (HB.out.trans ((below_one w9 _).mono HB.out.size)), nf (⟨_, rfl⟩), kf rfl f1 (fun h => (by first | exact h | exact rfl)), kf rfl f2 (fun h => (by first | exact h | exact rfl)), kf rfl f3 (fun h => (by first | exact h | exact rfl)), kf rfl f4 (fun h => (by first | exact h | exact rfl)), kf rfl f5 (fun h => fun h15 => own_belowS (h (unupd rfl h15)) (below_one w9 _)), kf rfl f6 (fun h => (by first | exact h | exact rfl)), kf rfl f7 (fun h => (by first | exact h | exact rfl)), kf rfl f8 (fun h => (by first | exact h | exact rfl)), kf rfl f9 (fun h => (by first | exact h | exact rfl)), kf rfl f10 (fun h => (by obtain ⟨gu, cap, e1, e2⟩ := h; exact ⟨gu, cap, e1, own_belowS e2 (below_one w9 _)⟩)), kf rfl f11 (fun h => (by first | exact h | exact rfl))⟩⟩
              · rintro d ac w9 ⟨x50, x51, x52, x53, x54, x55, x56, x57, x58, x59, x60, x61, rfl, hI⟩ hcl hdk haft
                rcases hI with ⟨hdf, HB, f0, f1, f2, f3, f4, f5, f6, f7, f8, f9, f10, f11⟩ | ⟨hdl, _⟩
                rotate_left
                · exact absurd ((hcl 2 _ rfl (hcl 4 _ rfl (hcl 5 _ rfl (hcl 10 _ rfl (hcl 12 _ rfl hdl ⟨10, .data⟩ (by simp) rfl) ⟨5, .data⟩ (by simp) rfl) ⟨4, .data⟩ (by simp) rfl) ⟨2, .data⟩ (by simp) rfl) ⟨1, .data⟩ (by simp) rfl).symm.trans hdk) (by decide)
                have hdz := hid hdf
                clear  hdk haft hcl hdf
                go_wp2
                exact thenK_n ⟨_, _, _, _, _, _, _, _, _, _, _, _, rfl, .inl ⟨kd rfl hdz, hid (HB.out.trans ((Below.refl w9.heap.size w9).mono HB.out.size)), kf rfl f0 (fun h => h), nf (rfl), kf rfl f2 (fun h => (by first | exact h | exact rfl)), kf rfl f3 (fun h => (by first | exact h | exact rfl)), kf rfl f4 (fun h => (by first | exact h | exact rfl)), kf rfl f5 (fun h => fun h15 => own_belowS (h (unupd rfl h15)) (Below.refl w9.heap.size w9)), kf rfl f6 (fun h => (by first | exact h | exact rfl)), kf rfl f7 (fun h => (by first | exact h | exact rfl)), kf rfl f8 (fun h => (by first | exact h | exact rfl)), kf rfl f9 (fun h => (by first | exact h | exact rfl)), kf rfl f10 (fun h => (by obtain ⟨gu, cap, e1, e2⟩ := h; exact ⟨gu, cap, e1, own_belowS e2 (Below.refl w9.heap.size w9)⟩)), kf rfl f11 (fun h => (by first | exact h | exact rfl))⟩⟩
              · rintro d ac w9 ⟨x50, x51, x52, x53, x54, x55, x56, x57, x58, x59, x60, x61, rfl, hI⟩ hcl hdk haft
                rcases hI with ⟨hdf, HB, f0, f1, f2, f3, f4, f5, f6, f7, f8, f9, f10, f11⟩ | ⟨hdl, _⟩
                rotate_left
                · exact absurd ((hcl 4 _ rfl (hcl 5 _ rfl (hcl 10 _ rfl (hcl 12 _ rfl hdl ⟨10, .data⟩ (by simp) rfl) ⟨5, .data⟩ (by simp) rfl) ⟨4, .data⟩ (by simp) rfl) ⟨2, .data⟩ (by simp) rfl).symm.trans hdk) (by decide)
                have h1 := haft ⟨1, .data⟩ (by simp) rfl
                obtain rfl := f1.out h1
                have hdz := hid hdf
                have hr9 := res_keep' HRB.out HB.out (lt_of_block HRB.out)
                have r0 := cell_of_heap (o := 0) (v := .slice (some ⟨bT, oT, none⟩) n ct) hr9 rfl
                have rl := lt_of_block hr9
                clear h1 hdk haft hcl hdf
                go_wp2
                exact thenK_n ⟨_, _, _, _, _, _, _, _, _, _, _, _, rfl, .inl ⟨kd rfl hdz, hid (HB.out.trans ((Below.refl w9.heap.size w9).mono HB.out.size)), kf rfl f0 (fun h => h), kf rfl f1 (fun h => (by first | exact h | exact rfl)), nf (rfl), kf rfl f3 (fun h => (by first | exact h | exact rfl)), kf rfl f4 (fun h => (by first | exact h | exact rfl)), kf rfl f5 (fun h => fun h15 => own_belowS (h (unupd rfl h15)) (Below.refl w9.heap.size w9)), kf rfl f6 (fun h => (by first | exact h | exact rfl)), kf rfl f7 (fun h => (by first | exact h | exact rfl)), kf rfl f8 (fun h => (by first | exact h | exact rfl)), kf rfl f9 (fun h => (by first | exact h | exact rfl)), kf rfl f10 (fun h => (by obtain ⟨gu, cap, e1, e2⟩ := h; exact ⟨gu, cap, e1, own_belowS e2 (Below.refl w9.heap.size w9)⟩)), kf rfl f11 (fun h => (by first | exact h | exact rfl))⟩⟩
              · rintro d ac w9 ⟨x50, x51, x52, x53, x54, x55, x56, x57, x58, x59, x60, x61, rfl, hI⟩ hcl hdk haft
                rcases hI with ⟨hdf, HB, f0, f1, f2, f3, f4, f5, f6, f7, f8, f9, f10, f11⟩ | ⟨hdl, _⟩
                rotate_left
                · exact absurd ((hcl 4 _ rfl (hcl 5 _ rfl (hcl 10 _ rfl (hcl 12 _ rfl hdl ⟨10, .data⟩ (by simp) rfl) ⟨5, .data⟩ (by simp) rfl) ⟨4, .data⟩ (by simp) rfl) ⟨3, .data⟩ (by simp) rfl).symm.trans hdk) (by decide)
                have hdz := hid hdf
                clear  hdk haft hcl hdf
                go_wp2
                exact thenK_n ⟨_, _, _, _, _, _, _, _, _, _, _, _, rfl, .inl ⟨kd rfl hdz, hid (HB.out.trans ((Below.refl w9.heap.size w9).mono HB.out.size)), kf rfl f0 (fun h => h), kf rfl f1 (fun h => (by first | exact h | exact rfl)), kf rfl f2 (fun h => (by first | exact h | exact rfl)), nf (rfl), kf rfl f4 (fun h => (by first | exact h | exact rfl)), kf rfl f5 (fun h => fun h15 => own_belowS (h (unupd rfl h15)) (Below.refl w9.heap.size w9)), kf rfl f6 (fun h => (by first | exact h | exact rfl)), kf rfl f7 (fun h => (by first | exact h | exact rfl)), kf rfl f8 (fun h => (by first | exact h | exact rfl)), kf rfl f9 (fun h => (by first | exact h | exact rfl)), kf rfl f10 (fun h => (by obtain ⟨gu, cap, e1, e2⟩ := h; exact ⟨gu, cap, e1, own_belowS e2 (Below.refl w9.heap.size w9)⟩)), kf rfl f11 (fun h => (by first | exact h | exact rfl))⟩⟩
              · rintro d ac w9 ⟨x50, x51, x52, x53, x54, x55, x56, x57, x58, x59, x60, x61, rfl, hI⟩ hcl hdk haft
                rcases hI with ⟨hdf, HB, f0, f1, f2, f3, f4, f5, f6, f7, f8, f9, f10, f11⟩ | ⟨hdl, _⟩
                rotate_left
                · exact absurd ((hcl 5 _ rfl (hcl 10 _ rfl (hcl 12 _ rfl hdl ⟨10, .data⟩ (by simp) rfl) ⟨5, .data⟩ (by simp) rfl) ⟨4, .data⟩ (by simp) rfl).symm.trans hdk) (by decide)
                have h2 := haft ⟨2, .data⟩ (by simp) rfl
                have h3 := haft ⟨3, .data⟩ (by simp) rfl
                obtain rfl := f2.out h2
                obtain rfl := f3.out h3
                have hdz := hid hdf
                have h00 : (0 : Int) ≤ (kk : Int) := by omega
                have h01 : (kk : Int) ≤ (n : Int) := by omega
                have h02 : (n : Int) ≤ (ct : Int) := by omega
                clear h2 h3 hdk haft hcl hdf
                go_wp2
                exact thenK_n ⟨_, _, _, _, _, _, _, _, _, _, _, _, rfl, .inl ⟨kd rfl hdz, hid (HB.out.trans ((Below.refl w9.heap.size w9).mono HB.out.size)), kf rfl f0 (fun h => h), kf rfl f1 (fun h => (by first | exact h | exact rfl)), kf rfl f2 (fun h => (by first | exact h | exact rfl)), kf rfl f3 (fun h => (by first | exact h | exact rfl)), nf (rfl), kf rfl f5 (fun h => fun h15 => own_belowS (h (unupd rfl h15)) (Below.refl w9.heap.size w9)), kf rfl f6 (fun h => (by first | exact h | exact rfl)), kf rfl f7 (fun h => (by first | exact h | exact rfl)), kf rfl f8 (fun h => (by first | exact h | exact rfl)), kf rfl f9 (fun h => (by first | exact h | exact rfl)), kf rfl f10 (fun h => (by obtain ⟨gu, cap, e1, e2⟩ := h; exact ⟨gu, cap, e1, own_belowS e2 (Below.refl w9.heap.size w9)⟩)), kf rfl f11 (fun h => (by first | exact h | exact rfl))⟩⟩
              · rintro d ac w9 ⟨x50, x51, x52, x53, x54, x55, x56, x57, x58, x59, x60, x61, rfl, hI⟩ hcl hdk haft
                rcases hI with ⟨hdf, HB, f0, f1, f2, f3, f4, f5, f6, f7, f8, f9, f10, f11⟩ | ⟨hdl, _⟩
                rotate_left
                · exact absurd ((hcl 10 _ rfl (hcl 12 _ rfl hdl ⟨10, .data⟩ (by simp) rfl) ⟨5, .data⟩ (by simp) rfl).symm.trans hdk) (by decide)
                have h0 := haft ⟨0, .data⟩ (by simp) rfl
                have h4 := haft ⟨4, .data⟩ (by simp) rfl
                obtain ⟨b0, rfl⟩ := f0.out h0
                obtain rfl := f4.out h4
                have hdz := hid hdf
                clear h0 h4 hdk haft hcl hdf
                refine wpList_append_grows _ rfl _ _ 43 rfl 51 j0 _ 3 48 Try.underlying43 hj hy0 hy1 hy2 rfl (by decide) (some ⟨b0, 0, none⟩) 0 0 [] rfl (by intro h; cases h) rfl (by intro b0 h0 j u hj; simp at hj) ⟨bT, oT + kk * 3, none⟩ (n - kk) (ct - kk) ((List.range (n - kk)).flatMap fun i => f (kk + i)) rfl (flat_range_len (fun i => HF3.out _) _) (fun j u hj => add_keep (HBWA.out.trans (HB.out.mono HBWA.out.size)) (rot_cells HF3.out HFL.out (by omega) j u hj)) (fun u hu => HO1.out u (rot_sub hu)) (by omega) (by unfold maxLen; omega) (by omega) ?_
                intro v8 w8 hown8 hg8
                have hO8 := own_mono hown8 HB.out.size
                simp only [List.nil_append, Nat.zero_add] at hO8
                go_wp2
                exact thenK_n ⟨_, _, _, _, _, _, _, _, _, _, _, _, rfl, .inl ⟨kd rfl hdz, hid (HB.out.trans ((below_none hg8).mono HB.out.size)), kf rfl f0 (fun h => h), kf rfl f1 (fun h => (by first | exact h | exact rfl)), kf rfl f2 (fun h => (by first | exact h | exact rfl)), kf rfl f3 (fun h => (by first | exact h | exact rfl)), kf rfl f4 (fun h => (by first | exact h | exact rfl)), nf (fun _ => hO8), kf rfl f6 (fun h => (by first | exact h | exact rfl)), kf rfl f7 (fun h => (by first | exact h | exact rfl)), kf rfl f8 (fun h => (by first | exact h | exact rfl)), kf rfl f9 (fun h => (by first | exact h | exact rfl)), kf rfl f10 (fun h => (by obtain ⟨gu, cap, e1, e2⟩ := h; exact ⟨gu, cap, e1, own_belowS e2 (below_none hg8)⟩)), kf rfl f11 (fun h => (by first | exact h | exact rfl))⟩⟩
              · rintro d ac w9 ⟨x50, x51, x52, x53, x54, x55, x56, x57, x58, x59, x60, x61, rfl, hI⟩ hcl hdk haft
                rcases hI with ⟨hdf, HB, f0, f1, f2, f3, f4, f5, f6, f7, f8, f9, f10, f11⟩ | ⟨hdl, _⟩
                rotate_left
                · exact absurd ((hcl 7 _ rfl (hcl 9 _ rfl (hcl 10 _ rfl (hcl 12 _ rfl hdl ⟨10, .data⟩ (by simp) rfl) ⟨9, .data⟩ (by simp) rfl) ⟨7, .data⟩ (by simp) rfl) ⟨6, .data⟩ (by simp) rfl).symm.trans hdk) (by decide)
                have hdz := hid hdf
                clear  hdk haft hcl hdf
                go_wp2
                exact thenK_n ⟨_, _, _, _, _, _, _, _, _, _, _, _, rfl, .inl ⟨kd rfl hdz, hid (HB.out.trans ((Below.refl w9.heap.size w9).mono HB.out.size)), kf rfl f0 (fun h => h), kf rfl f1 (fun h => (by first | exact h | exact rfl)), kf rfl f2 (fun h => (by first | exact h | exact rfl)), kf rfl f3 (fun h => (by first | exact h | exact rfl)), kf rfl f4 (fun h => (by first | exact h | exact rfl)), kf rfl f5 (fun h => fun h15 => own_belowS (h (unupd rfl h15)) (Below.refl w9.heap.size w9)), nf (rfl), kf rfl f7 (fun h => (by first | exact h | exact rfl)), kf rfl f8 (fun h => (by first | exact h | exact rfl)), kf rfl f9 (fun h => (by first | exact h | exact rfl)), kf rfl f10 (fun h => (by obtain ⟨gu, cap, e1, e2⟩ := h; exact ⟨gu, cap, e1, own_belowS e2 (Below.refl w9.heap.size w9)⟩)), kf rfl f11 (fun h => (by first | exact h | exact rfl))⟩⟩
              · rintro d ac w9 ⟨x50, x51, x52, x53, x54, x55, x56, x57, x58, x59, x60, x61, rfl, hI⟩ hcl hdk haft
                rcases hI with ⟨hdf, HB, f0, f1, f2, f3, f4, f5, f6, f7, f8, f9, f10, f11⟩ | ⟨hdl, _⟩
                rotate_left
                · exact absurd ((hcl 9 _ rfl (hcl 10 _ rfl (hcl 12 _ rfl hdl ⟨10, .data⟩ (by simp) rfl) ⟨9, .data⟩ (by simp) rfl) ⟨7, .data⟩ (by simp) rfl).symm.trans hdk) (by decide)
                have h6 := haft ⟨6, .data⟩ (by simp) rfl
                obtain rfl := f6.out h6
                have hdz := hid hdf
                have hr9 := res_keep' HRB.out HB.out (lt_of_block HRB.out)
                have r0 := cell_of_heap (o := 0) (v := .slice (some ⟨bT, oT, none⟩) n ct) hr9 rfl
                have rl := lt_of_block hr9
                clear h6 hdk haft hcl hdf
                go_wp2
                exact thenK_n ⟨_, _, _, _, _, _, _, _, _, _, _, _, rfl, .inl ⟨kd rfl hdz, hid (HB.out.trans ((Below.refl w9.heap.size w9).mono HB.out.size)), kf rfl f0 (fun h => h), kf rfl f1 (fun h => (by first | exact h | exact rfl)), kf rfl f2 (fun h => (by first | exact h | exact rfl)), kf rfl f3 (fun h => (by first | exact h | exact rfl)), kf rfl f4 (fun h => (by first | exact h | exact rfl)), kf rfl f5 (fun h => fun h15 => own_belowS (h (unupd rfl h15)) (Below.refl w9.heap.size w9)), kf rfl f6 (fun h => (by first | exact h | exact rfl)), nf (rfl), kf rfl f8 (fun h => (by first | exact h | exact rfl)), kf rfl f9 (fun h => (by first | exact h | exact rfl)), kf rfl f10 (fun h => (by obtain ⟨gu, cap, e1, e2⟩ := h; exact ⟨gu, cap, e1, own_belowS e2 (Below.refl w9.heap.size w9)⟩)), kf rfl f11 (fun h => (by first | exact h | exact rfl))⟩⟩
              · rintro d ac w9 ⟨x50, x51, x52, x53, x54, x55, x56, x57, x58, x59, x60, x61, rfl, hI⟩ hcl hdk haft
                rcases hI with ⟨hdf, HB, f0, f1, f2, f3, f4, f5, f6, f7, f8, f9, f10, f11⟩ | ⟨hdl, _⟩
                rotate_left
                · exact absurd ((hcl 9 _ rfl (hcl 10 _ rfl (hcl 12 _ rfl hdl ⟨10, .data⟩ (by simp) rfl) ⟨9, .data⟩ (by simp) rfl) ⟨8, .data⟩ (by simp) rfl).symm.trans hdk) (by decide)
                have hdz := hid hdf
                clear  hdk haft hcl hdf
                go_wp2
                exact thenK_n ⟨_, _, _, _, _, _, _, _, _, _, _, _, rfl, .inl ⟨kd rfl hdz, hid (HB.out.trans ((Below.refl w9.heap.size w9).mono HB.out.size)), kf rfl f0 (fun h => h), kf rfl f1 (fun h => (by first | exact h | exact rfl)), kf rfl f2 (fun h => (by first | exact h | exact rfl)), kf rfl f3 (fun h => (by first | exact h | exact rfl)), kf rfl f4 (fun h => (by first | exact h | exact rfl)), kf rfl f5 (fun h => fun h15 => own_belowS (h (unupd rfl h15)) (Below.refl w9.heap.size w9)), kf rfl f6 (fun h => (by first | exact h | exact rfl)), kf rfl f7 (fun h => (by first | exact h | exact rfl)), nf (rfl), kf rfl f9 (fun h => (by first | exact h | exact rfl)), kf rfl f10 (fun h => (by obtain ⟨gu, cap, e1, e2⟩ := h; exact ⟨gu, cap, e1, own_belowS e2 (Below.refl w9.heap.size w9)⟩)), kf rfl f11 (fun h => (by first | exact h | exact rfl))⟩⟩
              · rintro d ac w9 ⟨x50, x51, x52, x53, x54, x55, x56, x57, x58, x59, x60, x61, rfl, hI⟩ hcl hdk haft
                rcases hI with ⟨hdf, HB, f0, f1, f2, f3, f4, f5, f6, f7, f8, f9, f10, f11⟩ | ⟨hdl, _⟩
                rotate_left
                · exact absurd ((hcl 10 _ rfl (hcl 12 _ rfl hdl ⟨10, .data⟩ (by simp) rfl) ⟨9, .data⟩ (by simp) rfl).symm.trans hdk) (by decide)
                have h7 := haft ⟨7, .data⟩ (by simp) rfl
                have h8 := haft ⟨8, .data⟩ (by simp) rfl
                obtain rfl := f7.out h7
                obtain rfl := f8.out h8
                have hdz := hid hdf
                have h00 : (0 : Int) ≤ (kk : Int) := by omega
                have h01 : (kk : Int) ≤ (n : Int) := by omega
                have h02 : (n : Int) ≤ (ct : Int) := by omega
                have h03 : (kk : Int) ≤ (ct : Int) := by omega
                clear h7 h8 hdk haft hcl hdf
                go_wp2
                exact thenK_n ⟨_, _, _, _, _, _, _, _, _, _, _, _, rfl, .inl ⟨kd rfl hdz, hid (HB.out.trans ((Below.refl w9.heap.size w9).mono HB.out.size)), kf rfl f0 (fun h => h), kf rfl f1 (fun h => (by first | exact h | exact rfl)), kf rfl f2 (fun h => (by first | exact h | exact rfl)), kf rfl f3 (fun h => (by first | exact h | exact rfl)), kf rfl f4 (fun h => (by first | exact h | exact rfl)), kf rfl f5 (fun h => fun h15 => own_belowS (h (unupd rfl h15)) (Below.refl w9.heap.size w9)), kf rfl f6 (fun h => (by first | exact h | exact rfl)), kf rfl f7 (fun h => (by first | exact h | exact rfl)), kf rfl f8 (fun h => (by first | exact h | exact rfl)), nf (rfl), kf rfl f10 (fun h => (by obtain ⟨gu, cap, e1, e2⟩ := h; exact ⟨gu, cap, e1, own_belowS e2 (Below.refl w9.heap.size w9)⟩)), kf rfl f11 (fun h => (by first | exact h | exact rfl))⟩⟩
              · rintro d ac w9 ⟨x50, x51, x52, x53, x54, x55, x56, x57, x58, x59, x60, x61, rfl, hI⟩ hcl hdk haft
                rcases hI with ⟨hdf, HB, f0, f1, f2, f3, f4, f5, f6, f7, f8, f9, f10, f11⟩ | ⟨hdl, _⟩
                rotate_left
                · exact absurd ((hcl 12 _ rfl hdl ⟨10, .data⟩ (by simp) rfl).symm.trans hdk) (by decide)
                have h5 := haft ⟨5, .data⟩ (by simp) rfl
                have h9 := haft ⟨9, .data⟩ (by simp) rfl
                obtain own5 := f5.out h5
                obtain rfl := f9.out h9
                have hdz := hid hdf
                have OWN5 := hid (own5 hdk)
                clear own5
                clear h5 h9 hdk haft hcl hdf
                refine wpList_append_own _ rfl _ _ 43 rfl wa.heap.size 51 j0 _ 3 48 Try.underlying43 hj hy0 hy1 hy2 rfl (by decide) _ (n - kk) _ rfl OWN5.out ⟨bT, oT, none⟩ kk ct ((List.range kk).flatMap f) rfl (flat_range_len HF3.out _) (fun j u hj => add_keep (HBWA.out.trans (HB.out.mono HBWA.out.size)) (beg_cells HF3.out HFL.out (by omega) j u hj)) (fun u hu => HO1.out u (beg_sub (by omega) hu)) (by unfold maxLen; omega) (by omega) HB.out.size ?_
                intro v8 w8 hown8 hg8 _
                rw [show n - kk + kk = n - 1 + 1 by omega] at hown8
                obtain ⟨gu, cap, rfl⟩ := own_slice1 hown8
                rw [show n - 1 + 1 = n by omega] at hown8 ⊢
                go_wp2
                exact thenK_n ⟨_, _, _, _, _, _, _, _, _, _, _, _, rfl, .inl ⟨kd rfl hdz, hid (HB.out.grown hg8 HB.out.size (fun k e => (OWN5.out.lt k e).1)), kf rfl f0 (fun h => h), kf rfl f1 (fun h => (by first | exact h | exact rfl)), kf rfl f2 (fun h => (by first | exact h | exact rfl)), kf rfl f3 (fun h => (by first | exact h | exact rfl)), kf rfl f4 (fun h => (by first | exact h | exact rfl)), hid (fun _ h15 => absurd h15 (fun h => upd_self h)), kf rfl f6 (fun h => (by first | exact h | exact rfl)), kf rfl f7 (fun h => (by first | exact h | exact rfl)), kf rfl f8 (fun h => (by first | exact h | exact rfl)), kf rfl f9 (fun h => (by first | exact h | exact rfl)), nf (⟨gu, cap, rfl, hown8⟩), kf rfl f11 (fun h => (by first | exact h | exact rfl))⟩⟩
              · rintro d ac w9 ⟨x50, x51, x52, x53, x54, x55, x56, x57, x58, x59, x60, x61, rfl, hI⟩ hcl hdk haft
                rcases hI with ⟨hdf, HB, f0, f1, f2, f3, f4, f5, f6, f7, f8, f9, f10, f11⟩ | ⟨hdl, _⟩
                rotate_left
                · exact absurd ((hcl 12 _ rfl hdl ⟨11, .data⟩ (by simp) rfl).symm.trans hdk) (by decide)
                have hdz := hid hdf
                clear  hdk haft hcl hdf
                go_wp2
                exact thenK_n ⟨_, _, _, _, _, _, _, _, _, _, _, _, rfl, .inl ⟨kd rfl hdz, hid (HB.out.trans ((Below.refl w9.heap.size w9).mono HB.out.size)), kf rfl f0 (fun h => h), kf rfl f1 (fun h => (by first | exact h | exact rfl)), kf rfl f2 (fun h => (by first | exact h | exact rfl)), kf rfl f3 (fun h => (by first | exact h | exact rfl)), kf rfl f4 (fun h => (by first | exact h | exact rfl)), kf rfl f5 (fun h => fun h15 => own_belowS (h (unupd rfl h15)) (Below.refl w9.heap.size w9)), kf rfl f6 (fun h => (by first | exact h | exact rfl)), kf rfl f7 (fun h => (by first | exact h | exact rfl)), kf rfl f8 (fun h => (by first | exact h | exact rfl)), kf rfl f9 (fun h => (by first | exact h | exact rfl)), kf rfl f10 (fun h => (by obtain ⟨gu, cap, e1, e2⟩ := h; exact ⟨gu, cap, e1, own_belowS e2 (Below.refl w9.heap.size w9)⟩)), nf (rfl)⟩⟩
              · rintro d ac w9 ⟨x50, x51, x52, x53, x54, x55, x56, x57, x58, x59, x60, x61, rfl, hI⟩ hcl hdk haft
                rcases hI with ⟨hdf, HB, f0, f1, f2, f3, f4, f5, f6, f7, f8, f9, f10, f11⟩ | ⟨hdl, _⟩
                rotate_left
                · exact absurd (hdl.symm.trans hdk) (by decide)
                have h11 := haft ⟨11, .data⟩ (by simp) rfl
                have h10 := haft ⟨10, .data⟩ (by simp) rfl
                obtain rfl := f11.out h11
                obtain ⟨gu, cap, rfl, own10⟩ := f10.out h10
                have hdz := hid hdf
                have hp9 := res_keep' HSB.out HB.out HGA.out
                have p3 : w9.cell? ⟨wo.heap.size + 1, 0, none⟩ = some (.slice (some ⟨bT, oT, none⟩) n ct) := cell_of_heap hp9 rfl
                have fz : w9.frozen? ⟨wo.heap.size + 1, 0, none⟩ = false := by simp [World.frozen?, hp9]
                have HP9 := hid hp9
                have OW := hid own10
                have hne : (Value.slice (some ⟨gu, 0, none⟩) n cap).ownBlock ≠ some (wo.heap.size + 1) := fun e => by have := (own10.lt (wo.heap.size + 1) e).1; have := HGA.out; omega
                have HNE := hid hne
                have hbg : Below (wo.heap.size + 1) wa w9 := HB.out.mono (by have := HGA.out; omega)
                have HBG := hid hbg
                clear hp9 own10 hne hbg
                clear h11 h10 hdk haft hcl hdf
                go_wp2
                exact thenK_n ⟨_, _, _, _, _, _, _, _, _, _, _, _, rfl, .inr ⟨rfl, hid ⟨gu, cap, rfl, heap_setCell_same w9 (wo.heap.size + 1) 0 _ _ _ HP9.out, ownsRow_setCell_other OW.out (a := ⟨wo.heap.size + 1, 0, none⟩) HNE.out _, HBG.out.setCell (p := ⟨wo.heap.size + 1, 0, none⟩) (Nat.le_refl (wo.heap.size + 1)) _⟩⟩⟩
            case fin =>
              rintro d ac w9 ⟨x50, x51, x52, x53, x54, x55, x56, x57, x58, x59, x60, x61, rfl, hI⟩ hall
              rcases hI with ⟨hd, _⟩ | ⟨_, HE⟩
              · exact absurd ((hall 12).symm.trans hd) (by decide)
              clear hall
              obtain ⟨gu, cap, rfl, hs9, hown9, hb9⟩ := HE.out
              have hbo9 : Below wo.heap.size wo w9 := HWoA.out.trans (hb9.mono (by omega))
              have HBo9 := hid hbo9
              have HS9 := hid hs9
              have HOA : Hid (OwnA w w9 (w3.heap.size + 1) (.slice (some ⟨gu, 0, none⟩) n cap) (ru.atoms.drop kk ++ ru.atoms.take kk)) := hid (.inr ⟨rotF f n kk, by
                have e : (ru.atoms.drop kk ++ ru.atoms.take kk).length = n := by rw [← HN.out]; simp; have := HN.out; omega
                rw [e, rot_flat f n kk (by omega)]
                exact own_mono hown9 (by have := lt_of_block HP.out; have := HGA.out; omega), fun i => by unfold rotF; by_cases h : i < n - kk <;> simp [h, HF3.out], by
                have := rot_C (k := kk) (by rw [HN.out]; exact hkl) HFC.out
                rw [HN.out] at this
                exact this⟩)
              clear hs9 hown9 hb9 hbo9 HE
              have hp9 := res_keep' HP.out HBo9.out (lt_of_block HP.out)
              have u3 : w9.cell? ⟨w3.heap.size, 3, none⟩ = some u := cell_of_heap hp9 rfl
              have s0 : w9.cell? ⟨wo.heap.size + 1, 0, none⟩ = some (.slice (some ⟨gu, 0, none⟩) n cap) := cell_of_heap HS9.out rfl
              have s1 : w9.cell? ⟨wo.heap.size + 1, 1, none⟩ = some (.slice T2 n2 ct2) := cell_of_heap HS9.out rfl
              have HU9 := hid (own_belowS HU.out HBo9.out)
              have HVS9 := hid (HVS.out.below HBo9.out)
              have HP9 := hid hp9
              have hplt := lt_of_block hp9
              have hslt := lt_of_block HS9.out
              have HB9 := hid (HB5.out.trans (HBo9.out.mono (by have := HB5.out.size; simpa using this)))
              have HD9 := hid (HD.out.push (m := ⟨ru.atoms.drop kk ++ ru.atoms.take kk, ru.conds⟩) HN2.out HCN.out.1 HCN.out.2.1 HCN.out.2.2.1 (by have := HCN.out.2.2.2; simp; omega))
              have HTL9 := hid (HTURN.out _ (turned_rot ru kk))
              clear hp9
              go_wp2_with (at_builtin; refine wpList_append_new2 Try.underlying23 hi hz0 hz1 hz2 rfl (by decide) (by decide) rfl rfl rfl HU9.out rfl rfl rfl rfl (by omega) (by omega) ?_; intro v8 w8 hown8 hg8; obtain ⟨g8, cap8, rfl⟩ := own_slice1 hown8; have hp8 := hid ((hg8.block w3.heap.size hplt (fun e => by have := (HU9.out.lt _ e.symm).1; omega)).trans HP9.out); have t8 : w8.cell? ⟨w3.heap.size, 3, none⟩ = some u := cell_of_heap hp8.out rfl; have f8 : w8.frozen? ⟨w3.heap.size, 3, none⟩ = false := by simp [World.frozen?, hp8.out])
              have HP10 := hid (heap_setCell_same w8 w3.heap.size 3 _ _ (.slice (some ⟨g8, 0, none⟩) (k + 1) cap8) hp8.out)
              have hU10 := ownsRow_setCell_other hown8 (a := ⟨w3.heap.size, 3, none⟩) (fun e => by have := (hown8.lt _ e).1; simp at this; omega) (.slice (some ⟨g8, 0, none⟩) (k + 1) cap8)
              rw [← zip_push (HL.out.1.trans HL.out.2.1.symm)] at hU10
              have HU10 := hid hU10
              have HVS10 := hid (((HVS9.out.kept HU9.out (by decide) hg8).push (m := ⟨ru.atoms.drop kk ++ ru.atoms.take kk, ru.conds⟩) (HOA.out.kept HU9.out (by decide) hg8)).far (turn_set w8 w3.heap.size 3 (.slice (some ⟨g8, 0, none⟩) (k + 1) cap8)) (by omega))
              have hB9 := HB9.out.grown hg8 (by have := HB9.out.size; simpa using this) (fun j e => by have := (HU9.out.lt j e).1; omega)
              have HB10 := hid (hB9.setCell (p := ⟨w3.heap.size, 3, none⟩) (by show w.heap.size + 1 ≤ w3.heap.size; exact hgw) (.slice (some ⟨g8, 0, none⟩) (k + 1) cap8))
              have HL10 := hid (⟨by simp [HL.out.1], by simp [HL.out.2.1], by simp [HL.out.2.2]⟩ : (vs ++ [(.slice (some ⟨gu, 0, none⟩) n cap : Value)]).length = k + 1 ∧ (ds ++ [(Value.slice T2 n2 ct2)]).length = k + 1 ∧ (ms ++ [(⟨ru.atoms.drop kk ++ ru.atoms.take kk, ru.conds⟩ : Rul)]).length = k + 1)
              clear hown8 hg8 hp8 t8 f8 hU10 hB9 HVS9 HU9 HB9 HVS HU HD HTL HP HOA
              go_wp2
              go_roundw
              case rel => exact ⟨k + 1, _, _, _, _, by omega, by go_num, HL10, HTL9, HP10, HU10, HVS10, HD9, HB10⟩
              case measure => simp [intOf]; omega
        · have hkr : k = rs.length := by omega
          obtain ⟨A', c', rfl, qin⟩ := turn_in HQ.out hbel HL.out hkr HU.out HVS.out HD.out
          have HTR : Hid (TurnedL rs ms) := hid (by have h := HTL.out; rw [hkr, List.take_length] at h; exact h)
          obtain ⟨⟨e0, th, tr⟩, hx⟩ : ∃ x, checkT ⟨hd, ga, av, rs, os⟩ S = x := ⟨_, rfl⟩
          obtain ⟨⟨e1, th2, tr2⟩, hx2⟩ : ∃ x, checkT (turnQ ⟨hd, ga, av, rs, os⟩ ms) S = x := ⟨_, rfl⟩
          have hW1 := (checkT_wf (q := ⟨hd, ga, av, rs, os⟩) HWF.out HWS.out).v
          have hW2 := (checkT_wf (turn_wf (q := ⟨hd, ga, av, rs, os⟩) HWF.out HTR.out) HWS.out).v
          have hF := checkT_few ⟨hd, ga, av, rs, os⟩ S
          have hT := checkT_turn (S := S) (q := ⟨hd, ga, av, rs, os⟩) HTR.out
          rw [hx] at hW1 hF hT
          rw [hx2] at hW2 hT
          obtain ⟨t1, t2, t3, t4⟩ := hT
          have t2' : th2 = th := t2
          subst t2'
          have hb0 : (e0 == 0) = (e1 == 0) := by
            rw [Bool.eq_iff_iff, beq_iff_eq, beq_iff_eq]; exact t1.symm
          obtain ⟨z, hz⟩ : ∃ z, (e0 == 0) = z := ⟨_, rfl⟩
          rw [hz] at hb0
          have HZ := hid hz
          have HZ1 := hid hb0.symm
          have T3 := hid (show tr2.length = tr.length from t3)
          have T4 := hid (show ∀ i (h1 : i < tr.length) (h2 : i < tr2.length), tr2[i].length = tr[i].length ∧ (tr[i].map (·.1)).Nodup ∧ ∀ p ∈ tr2[i], p ∈ tr[i] from t4)
          have HW1 := hid (show ∀ l ∈ tr, ∀ p ∈ l, p.1.length ≤ 9223372036854775807 ∧ I64 p.2 from hW1)
          have HW2 := hid (show ∀ l ∈ tr2, ∀ p ∈ l, p.1.length ≤ 9223372036854775807 ∧ I64 p.2 from hW2)
          have HF1 := hid (show th2.length ≤ 100000 from hF.h)
          have HF2 := hid (show tr.length ≤ 100000 from hF.r)
          have HF3 := hid (show ∀ l ∈ tr, l.length ≤ 100000 from hF.v)
          have HLM := hid (HL.out.2.2)
          have C3 := chk_check ⟨hd, ga, av, rs, os⟩ S A R O B ch cr co cs wo (HQ.out.below hbel) (HS.out.below hbel) HWF.out HWS.out hms hx
          have C4 := fun W (hb : Below wo.heap.size wo W) => hid (chk_check (turnQ ⟨hd, ga, av, rs, os⟩ ms) S A A' O B ch c' co cs W (qin.below hb) (HS.out.below (hbel.trans (hb.mono hsz))) (turn_wf (q := ⟨hd, ga, av, rs, os⟩) HWF.out HTR.out) HWS.out hms hx2)
          unfold qryV at C3 C4
          simp only [turnQ, HY.out, HLM.out] at C3 C4
          have HP' := HP
          rw [HLM.out] at HP'
          have HC3 := hid C3
          clear hkr C3 qin hx hx2 hW1 hW2 hF t1 t2 t3 t4 hz hb0 HU HVS HD HTL HP HL
          go_wp2_with fail
          refine HC3.out.mono ?_
          rintro e w10 ⟨H2, R2, d2, d3, rfl, k2, v2, _, _, b4⟩
          clear HC3 q0 q1 q2 q3 q4 qlt
          have hb11 := b4.trans ((below_one w10 (.cells #[.slice H2 th2.length d2, .slice R2 tr.length d3] 34)).mono b4.size)
          have HB11 := hid (hbel.trans (hb11.mono hsz))
          have hp11 := res_keep' HP'.out hb11 (lt_of_block HP'.out)
          have K2 := hid (k2.below (below_one w10 (.cells #[.slice H2 th2.length d2, .slice R2 tr.length d3] 34)))
          have V2 := hid (v2.below (below_one w10 (.cells #[.slice H2 th2.length d2, .slice R2 tr.length d3] 34)))
          have ht11 := heap_alloc_new w10 (.cells #[.slice H2 th2.length d2, .slice R2 tr.length d3] 34)
          have HC4 := hid (C4 _ hb11).out
          obtain ⟨p0, p1, p2, p3, p4, plt⟩ := box_cells hp11
          have HT11 := hid ht11
          clear C4 k2 v2 b4 hb11 hp11 ht11 hbel hsz HP'
          go_upto_region 16 with fail
          generalize (w10.alloc (.cells #[.slice H2 th2.length d2, .slice R2 tr.length d3] 34)) = w11 at *
          generalize w10.heap.size = g8 at *
          go_wp2_with fail
          refine HC4.out.mono ?_
          rintro e w12 ⟨H3, R3, d4, d5, rfl, k3, v3, _, _, b5⟩
          clear HC4 p0 p1 p2 p3 p4 plt
          have HB12 := hid (HB11.out.trans (b5.mono HB11.out.size))
          have K2' := hid (K2.out.below b5)
          have V2' := hid (V2.out.below b5)
          have HT12 := hid (res_keep' HT11.out b5 (lt_of_block HT11.out))
          clear b5 HB11 K2 V2 HT11
          simp only at k3 v3
          have K3 := hid (k3.below (below_one w12 (.cells #[.slice H3 th2.length d4, .slice R3 tr2.length d5] 34)))
          have V3 := hid (v3.below (below_one w12 (.cells #[.slice H3 th2.length d4, .slice R3 tr2.length d5] 34)))
          have HB13 := hid (HB12.out.trans ((below_one w12 (.cells #[.slice H3 th2.length d4, .slice R3 tr2.length d5] 34)).mono HB12.out.size))
          have K2 := hid (K2'.out.below (below_one w12 (.cells #[.slice H3 th2.length d4, .slice R3 tr2.length d5] 34)))
          have V2 := hid (V2'.out.below (below_one w12 (.cells #[.slice H3 th2.length d4, .slice R3 tr2.length d5] 34)))
          have ht8 := res_keep' HT12.out (below_one w12 (.cells #[.slice H3 th2.length d4, .slice R3 tr2.length d5] 34)) (lt_of_block HT12.out)
          have ht10 := heap_alloc_new w12 (.cells #[.slice H3 th2.length d4, .slice R3 tr2.length d5] 34)
          have HT8 := hid ht8
          have HT10 := hid ht10
          clear HB12 K2' V2' HT12 k3 v3
          go_upto_region 17 with fail
          generalize (w12.alloc (.cells #[.slice H3 th2.length d4, .slice R3 tr2.length d5] 34)) = w13 at *
          generalize w12.heap.size = g10 at *
          have t80 := cell_of_heap (o := 0) (v := .slice H2 th2.length d2) ht8 rfl
          have t10 := cell_of_heap (o := 0) (v := .slice H3 th2.length d4) ht10 rfl
          have t81 := cell_of_heap (o := 1) (v := .slice R2 tr.length d3) ht8 rfl
          have t11 := cell_of_heap (o := 1) (v := .slice R3 tr2.length d5) ht10 rfl
          have l8 := lt_of_block ht8
          have l10 := lt_of_block ht10
          clear ht8 ht10
          have hz0 := HZ.out
          have hz1 := HZ1.out
          have bq3 : ((tr.length : Int) != (tr2.length : Int)) = false := by rw [T3.out]; simp
          go_wp2
          clear t80 t10 t81 t11 l8 l10 hz0 hz1 bq3
          have hdl := HF1.out
          have hrl := HF2.out
          have HB14 : Hid (Below w13.heap.size w13 w13) := hid (Below.refl _ _)
          go_loopw [107] (fun i wr => ∃ k : Nat, k ≤ th2.length ∧ i = .int .i64 k ∧ Hid (Below w13.heap.size w13 wr)) (fun i _ => th2.length - (intOf i).toNat)
          case atStart => exact ⟨0, by omega, rfl, HB14⟩
          case round =>
            obtain ⟨k, hk, rfl, HBk⟩ := hrel
            clear HB14
            have ht8 := res_keep' HT8.out HBk.out (lt_of_block HT8.out)
            have ht10 := res_keep' HT10.out HBk.out (lt_of_block HT10.out)
            have t80 := cell_of_heap (o := 0) (v := .slice H2 th2.length d2) ht8 rfl
            have t10 := cell_of_heap (o := 0) (v := .slice H3 th2.length d4) ht10 rfl
            have t81 := cell_of_heap (o := 1) (v := .slice R2 tr.length d3) ht8 rfl
            have t11 := cell_of_heap (o := 1) (v := .slice R3 tr2.length d5) ht10 rfl
            have l8 := lt_of_block ht8
            have l10 := lt_of_block ht10
            clear ht8 ht10
            by_cases hlt : k < th2.length
            · obtain ⟨ba, oa, rfl, hca⟩ := K2.out (by omega)
              obtain ⟨bh, oh, rfl, hch⟩ := K3.out (by omega)
              have c0 := cell_keep HBk.out (hca k hlt)
              have c1 := cell_keep HBk.out (hch k hlt)
              obtain ⟨x, ex⟩ : ∃ x, th2[k] = x := ⟨_, rfl⟩
              rw [ex] at c0 c1
              clear hca hch ex
              go_wp2
              go_quiet (fail)
              have HB2 := hid (below_drewN HBk.out nq)
              go_wp2
              go_roundw
              case rel => exact ⟨k + 1, by omega, by go_num, HB2⟩
              case measure => simp [intOf]; omega
            · go_wp2
              clear t80 t10 t81 t11 l8 l10
              go_loopw [125] (fun i wr => ∃ k : Nat, k ≤ tr.length ∧ i = .int .i64 k ∧ Hid (Below w13.heap.size w13 wr)) (fun i _ => tr.length - (intOf i).toNat)
              case atStart => exact ⟨0, by omega, rfl, HBk⟩
              case round =>
                clear HBk hlt hk
                obtain ⟨i, hi, rfl, HBi⟩ := hrel
                rename World => wo
                have ht8 := res_keep' HT8.out HBi.out (lt_of_block HT8.out)
                have ht10 := res_keep' HT10.out HBi.out (lt_of_block HT10.out)
                have l8 := lt_of_block ht8
                have l10 := lt_of_block ht10
                have t81 := cell_of_heap (o := 1) (v := .slice R2 tr.length d3) ht8 rfl
                have t11 := cell_of_heap (o := 1) (v := .slice R3 tr2.length d5) ht10 rfl
                clear ht8 ht10
                have hbk := HB13.out.trans (HBi.out.mono HB13.out.size)
                by_cases hit : i < tr.length
                · have hit2 : i < tr2.length := by rw [T3.out]; exact hit
                  obtain ⟨bR, oR, rfl, hra⟩ := V2.out (by omega)
                  obtain ⟨bS, oS, rfl, hrb⟩ := V3.out (by omega)
                  obtain ⟨Ta, ca, ra, va, lca⟩ := hra i hit
                  obtain ⟨Tb, cb, rb, vb, lcb⟩ := hrb i hit2
                  obtain ⟨hl12, hnd, hmem⟩ := T4.out i hit hit2
                  have hw1 := HW1.out tr[i] (List.getElem_mem hit)
                  have hw2 := HW2.out tr2[i] (List.getElem_mem hit2)
                  have hf1 := HF3.out tr[i] (List.getElem_mem hit)
                  obtain ⟨l1, e1⟩ : ∃ l, tr[i] = l := ⟨_, rfl⟩
                  obtain ⟨l2, e2⟩ : ∃ l, tr2[i] = l := ⟨_, rfl⟩
                  rw [e1] at ra va lca hl12 hnd hmem hw1 hf1
                  rw [e2] at rb vb lcb hl12 hmem hw2
                  have ra' := cell_keep HBi.out ra
                  have rb' := cell_keep HBi.out rb
                  have HVa := hid (va.below HBi.out)
                  have HVb := hid (vb.below HBi.out)
                  have HND := hid hnd
                  have HMEM := hid hmem
                  have HWa := hid hw1
                  have HWb := hid hw2
                  have HL12 := hid hl12
                  have hf2 : l2.length ≤ 100000 := by omega
                  have hmm := @run_makeMap Try.prog
                  have hM := KMapAt.made wo
                  have hbm := below_one wo (.map #[] 0)
                  have RA := hid ra'
                  have RB := hid rb'
                  have T81 := hid t81
                  have T11 := hid t11
                  replace t81 := cell_keep hbm t81
                  replace t11 := cell_keep hbm t11
                  replace ra' := cell_keep hbm ra'
                  replace rb' := cell_keep hbm rb'
                  have hsm : wo.heap.size < (wo.alloc (.map #[] 0)).heap.size := by simp
                  clear hra hrb ra va rb vb hnd hmem hw1 hw2 hl12 e1 e2
                  go_upto_region 29 with fail
                  have HM := hid hM
                  have HBM := hid hbm
                  clear hM hbm
                  generalize (wo.alloc (.map #[] 0)) = wm at *
                  go_wp2
                  clear t81 t11 ra' rb'
                  go_loopw [135] (fun j wr => ∃ j' m : Nat, j' ≤ l1.length ∧ j = .int .i64 j' ∧ m ≤ j' ∧ Hid (KMapAt wr wo.heap.size m (l1.take j')) ∧ Hid (Below wo.heap.size wo wr)) (fun j _ => l1.length - (intOf j).toNat)
                  case atStart => exact ⟨0, 0, by omega, rfl, by omega, HM, HBM⟩
                  case round =>
                    clear HM HBM hsm
                    obtain ⟨j, m, hj, rfl, hm, HMj, HBj⟩ := hrel
                    have hbj := HBj.out
                    have hszj := hbj.size
                    have hml := HMj.out.lt
                    by_cases hjt : j < l1.length
                    · obtain ⟨bv, ov, rfl, hcv⟩ := HVa.out (by omega)
                      obtain ⟨g0, g1⟩ := hcv j hjt
                      replace g0 := cell_keep hbj g0
                      replace g1 := cell_keep hbj g1
                      have hnone := env_take hjt HND.out
                      have htk : l1.take (j + 1) = l1.take j ++ [l1[j]] := List.take_succ_eq_append_getElem hjt
                      obtain ⟨hwv, hwq⟩ := HWa.out l1[j] (List.getElem_mem hjt)
                      obtain ⟨p, ep⟩ : ∃ p, l1[j] = p := ⟨_, rfl⟩
                      rw [ep] at g0 g1 hnone htk hwv hwq
                      obtain ⟨v, kd⟩ := p
                      simp only at g0 g1 hnone hwv hwq
                      have HU := hid (updF_env (k := kd) hnone)
                      have HTK := hid htk
                      have HWQ := hid hwq
                      obtain ⟨Z, hZ, hZd, _⟩ := nm v
                      rw [hZ] at g0
                      have hZs := maxLen_of hZd hwv
                      have HZd := hid hZd
                      have HMn := hid (HMj.out.alloc (.cells #[.string Z, .int .i64 kd] 65))
                      have hBn := hbj.alloc hszj (.cells #[.string Z, .int .i64 kd] 65)
                      clear hcv ep hnone htk hwq hZ hZd HMj HBj
                      go_wp2_with (at_mapUpdate; refine wpList_put rfl _ _ _ rfl HMn.out Try.underlying9 Try.underlying68 (by unfold maxLen; omega) rfl Z rfl hZs kd rfl (EI_wf HWQ.out) ?_; intro w5 hmap5 hg5)
                      have HB5 := hid (hBn.grown hg5 hBn.size (fun j hj => by injection hj; omega))
                      rw [HZd.out, HU.out, ← HTK.out] at hmap5
                      go_roundw
                      case rel => exact ⟨j + 1, m + 1, by omega, by go_num, by omega, hid hmap5, HB5⟩
                      case measure => simp [intOf]; omega
                    · have hmf := HMj.out
                      rw [List.take_of_length_le (by omega)] at hmf
                      have HMf := hid hmf
                      have t81 := cell_keep hbj T81.out
                      have t11 := cell_keep hbj T11.out
                      have ra' := cell_keep hbj RA.out
                      have rb' := cell_keep hbj RB.out
                      clear hmf HMj
                      go_wp2
                      clear t81 t11 ra' rb'
                      go_loopw [151] (fun j wr => ∃ j' : Nat, j' ≤ l2.length ∧ j = .int .i64 j' ∧ Hid (KMapAt wr wo.heap.size m l1) ∧ Hid (Below wo.heap.size wo wr)) (fun j _ => l2.length - (intOf j).toNat)
                      case atStart => exact ⟨0, by omega, rfl, HMf, HBj⟩
                      case round =>
                        clear HMf HBj hbj hszj hml hjt hj
                        obtain ⟨j, hj, rfl, HMj, HBj⟩ := hrel
                        have hbj := HBj.out
                        have hszj := hbj.size
                        by_cases hjt : j < l2.length
                        · obtain ⟨bv, ov, rfl, hcv⟩ := HVb.out (by omega)
                          obtain ⟨g0, g1⟩ := hcv j hjt
                          replace g0 := cell_keep hbj g0
                          replace g1 := cell_keep hbj g1
                          have hget := env_mem (HMEM.out l2[j] (List.getElem_mem hjt)) HND.out
                          obtain ⟨hwv, _⟩ := HWb.out l2[j] (List.getElem_mem hjt)
                          obtain ⟨p, ep⟩ : ∃ p, l2[j] = p := ⟨_, rfl⟩
                          rw [ep] at g0 g1 hget hwv
                          obtain ⟨v, kd⟩ := p
                          simp only at g0 g1 hget hwv
                          obtain ⟨Z, hZ, hZd, _⟩ := nm v
                          rw [hZ] at g0
                          have hZs := maxLen_of hZd hwv
                          have hv0 : EI.R ((getE l1 Z.data.toList).getD EI.zero) = .int .i64 kd := by rw [hZd, hget]; rfl
                          have HV0 := hid hv0
                          have HMn := hid (HMj.out.alloc (.cells #[.string Z, .int .i64 kd] 65))
                          have HBn := hid (hbj.alloc hszj (.cells #[.string Z, .int .i64 kd] 65))
                          clear hcv ep hget hZ hZd hv0 HMj HBj
                          go_wp2_with (at_lookup; refine wpList_look rfl _ _ rfl HMn.out EI_ok Try.underlying9 Try.underlying68 rfl Z rfl hZs (.int .i64 kd) HV0.out ?_)
                          go_roundw
                          case rel => exact ⟨j + 1, by omega, by go_num, HMn, HBn⟩
                          case measure => simp [intOf]; omega
                        · have t81 := cell_keep hbj T81.out
                          have t11 := cell_keep hbj T11.out
                          have ra' := cell_keep hbj RA.out
                          have rb' := cell_keep hbj RB.out
                          have l8' : g8 < wr.heap.size := by omega
                          have l10' : g10 < wr.heap.size := by omega
                          have bq : ((l1.length : Int) != (l2.length : Int)) = false := by rw [HL12.out]; simp
                          clear HMj
                          go_wp2
                          go_quiet (fail)
                          have HB2 := hid (HBi.out.trans ((below_drewN HBj.out nq).mono HBi.out.size))
                          go_wp2
                          go_roundw
                          case rel => exact ⟨i + 1, by omega, rfl, HB2⟩
                          case measure => simp [intOf]; omega
                · go_wp2_with fail
                  refine (AW _).out.mono ?_
                  rintro e w6 ⟨rfl, b6⟩
                  have hb6 := hbk.trans (b6.mono hbk.size)
                  clear b6
                  go_wp2
                  go_ret
                  exact ⟨rfl, hb6⟩
end Go.Proofs.Ytgeapgbebbapmaa
