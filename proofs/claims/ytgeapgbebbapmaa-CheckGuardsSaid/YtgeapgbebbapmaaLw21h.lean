/-
  WALK: the law CheckGuards, over what awake answers; no condition but the form's on the lengths.
-/
import Derived.Test.YtgeapgbebbapmaaLwRule
import Derived.Test.YtgeapgbebbapmaaRefG
import Derived.Test.YtgeapgbebbapmaaSzQ
import Derived.Test.YtgeapgbebbapmaaLw21c
import Derived.Deep.QuietTactic
namespace Go.Proofs.Ytgeapgbebbapmaa
open Go.RowKit

/-- A query of one rule. -/
theorem one_in {w : World} {r : Rul} {T T2 : Option Addr} {c c2 : Nat} (ha : AtmsAt w T r.atoms) (hc : CndsAt w T2 r.conds) (h1 : r.atoms.length ≤ c) (h2 : r.conds.length ≤ c2) (h3 : r.atoms.length ≤ 9223372036854775807) (h4 : r.conds.length ≤ 9223372036854775807) :
    QryIn (w.alloc (.cells #[.slice T r.atoms.length c, .slice T2 r.conds.length c2] 46)) ⟨[], 0, [], [r], []⟩ none (some ⟨w.heap.size, 0, none⟩) none 0 1 0 := by
  have hb := below_one w (.cells #[.slice T r.atoms.length c, .slice T2 r.conds.length c2] 46)
  have hn := heap_alloc_new w (.cells #[.slice T r.atoms.length c, .slice T2 r.conds.length c2] 46)
  refine ⟨NmsAt.nil, fun _ => ⟨_, _, rfl, fun i hi => ?_⟩, KysAt.nil, by simp, by simp, by simp, by simp, by simp, by simp⟩
  have hj : i < 1 := hi
  match i, hj with
  | 0, _ => exact ⟨T, c, T2, c2, by rw [cell_res' hn]; rfl, by rw [cell_res' hn]; rfl, ha.below hb, hc.below hb, h1, h2, h3, h4⟩

theorem one_call {q : Qry} {B g : Nat} {W : World} {f : Nat} {P : Program} {args : Nat → Array Value} (h : ∀ (B : Nat) (W : World), QryIn W q none (some ⟨B, 0, none⟩) none 0 1 0 → Hid (Calls P f (args B) W (fun e w' => SomeB e ∧ Below W.heap.size W w'))) (hq : QryIn W q none (some ⟨B, 0, none⟩) none 0 1 0) (hg : B = g) : Calls P f (args g) W (fun e w' => SomeB e ∧ Below W.heap.size W w') := by
  subst hg
  exact (h B W hq).out
set_option maxRecDepth 100000 in
set_option maxHeartbeats 16000000 in
theorem law_guards (AW : ∀ W : World, Hid (Calls Try.prog 12 #[] W fun e w' => e = .returned (.bool true) ∧ Below W.heap.size W w'))
    (r : Rul) (T T2 : Option Addr) (c c2 : Nat) (i : Int) (w : World) (ha : AtmsAt w T r.atoms) (hc : CndsAt w T2 r.conds) (h1 : r.atoms.length ≤ c) (h2 : r.conds.length ≤ c2) (hwf : r.wf) (hsz : r.sz) :
    Calls Try.prog 4 #[.agg #[.slice T r.atoms.length c, .slice T2 r.conds.length c2], .int .i64 i] w fun e w' => e = .returned (.bool true) ∧ Below w.heap.size w w' := by
  have HA := hid ha
  have HC := hid hc
  have ma := hsz.a
  have mc := hsz.c
  have C1 : ∀ (B : Nat) (W : World), QryIn W ⟨[], 0, [], [r], []⟩ none (some ⟨B, 0, none⟩) none 0 1 0 → Hid (Calls Try.prog 10 #[.agg #[.slice none 0 0, .int .i64 0, .string ⟨#[]⟩, .slice (some ⟨B, 0, none⟩) 1 1, .slice none 0 0]] W fun e w' => SomeB e ∧ Below W.heap.size W w') := fun B W h => hid (law_great ⟨[], 0, [], [r], []⟩ none (some ⟨B, 0, none⟩) none 0 1 0 W h)
  have C2 := fun W x ha hx => hid (chk_guard r T T2 c c2 i W ha (by omega) hwf (x := x) hx)
  have C3 := fun W ha hc => hid (law_rule r T T2 c c2 W ha hc ma mc hsz.t)
  have C4 := fun A B ca cb j W h hj x hx => hid (ref_guard r A B ca cb j W h ma hsz.t hj (x := x) hx)
  have ONE := fun W ha hc => hid (one_in (w := W) (r := r) (T := T) (T2 := T2) (c := c) (c2 := c2) ha hc h1 h2 (by omega) (by omega))
  have HB0 : Hid (Below (w.heap.size + 1) (w.alloc (.cells #[.slice T r.atoms.length c, .slice T2 r.conds.length c2] 46)) (w.alloc (.cells #[.slice T r.atoms.length c, .slice T2 r.conds.length c2] 46))) := hid (Below.refl _ _)
  have HR0 : Hid (∀ a b, guardR r i = (a, b) → guardR r i = (a, b)) := hid (fun _ _ h => h)
  have GIN : Hid (∀ (j : Nat) (h : j < r.atoms.length) (a : Atm), r.atoms[j] = a → guardR r j = if a.neg = false then (0, 2) else gRes (guardG r.atoms a)) := hid (fun j h a e => guardR_in h e)
  have GOUT : Hid (i < 0 ∨ (r.atoms.length : Int) ≤ i → guardR r i = (0, 3)) := hid guardR_out
  clear ha hc hwf hsz h1 h2 HR0
  obtain ⟨c0, c1, clt, hbel⟩ := rul_cells HB0.out
  have HBL := hid hbel
  go_enter Try.func4, Try.ntmps4
  go_wp2_with fail
  refine (one_call (args := fun B => #[.agg #[.slice none 0 0, .int .i64 0, .string ⟨#[]⟩, .slice (some ⟨B, 0, none⟩) 1 1, .slice none 0 0]]) C1 (ONE _ (HA.out.below HBL.out) (HC.out.below HBL.out)).out (by simp)).mono ?_
  rintro e w2 ⟨hsb, b2⟩
  obtain ⟨bg, rfl⟩ := hsb
  have HB2 := hid ((HB0.out.trans ((below_one _ (.cells #[.slice T r.atoms.length c, .slice T2 r.conds.length c2] 46)).mono (by simp))).trans (b2.mono (by simp)))
  clear C1 b2 HB0 c0 c1 clt hbel HBL
  obtain ⟨c0, c1, clt, hbel⟩ := rul_cells HB2.out
  cases bg with
  | true =>
    go_wp2_with fail
    refine (AW _).out.mono ?_
    rintro e w9 ⟨rfl, b9⟩
    have hb9 := hbel.trans (b9.mono hbel.size)
    clear b9
    go_wp2
    go_ret
    exact ⟨rfl, hb9⟩
  | false =>
    obtain ⟨⟨g1, g2⟩, hx⟩ : ∃ x, guardR r i = x := ⟨_, rfl⟩
    have HX := hid hx
    have C2' := C2 _ (g1, g2) (HA.out.below hbel) hx
    clear hx C2
    go_wp2_with fail
    refine C2'.out.mono ?_
    rintro e w3 ⟨rfl, b3⟩
    have HB3 := hid (HB2.out.trans (b3.mono (by have := HB2.out.size; simpa using this)))
    clear C2' b3 HB2 c0 c1 clt hbel
    obtain ⟨c0, c1, clt, hbel⟩ := rul_cells HB3.out
    by_cases hi0 : i < 0
    · have hg := HX.out.symm.trans (GOUT.out (.inl hi0))
      injection hg with hg1 hg2
      subst hg1 hg2
      clear GOUT GIN HX
      go_wp2_with fail
      refine (AW _).out.mono ?_
      rintro e w9 ⟨rfl, b9⟩
      have hb9 := hbel.trans (b9.mono hbel.size)
      clear b9
      go_wp2
      go_ret
      exact ⟨rfl, hb9⟩
    · by_cases hil : (r.atoms.length : Int) ≤ i
      · have hg := HX.out.symm.trans (GOUT.out (.inr hil))
        injection hg with hg1 hg2
        subst hg1 hg2
        clear GOUT GIN HX
        go_wp2_with fail
        refine (AW _).out.mono ?_
        rintro e w9 ⟨rfl, b9⟩
        have hb9 := hbel.trans (b9.mono hbel.size)
        clear b9
        go_wp2
        go_ret
        exact ⟨rfl, hb9⟩
      · obtain ⟨j, rfl⟩ : ∃ j : Nat, i = j := ⟨i.toNat, by omega⟩
        have hjl : j < r.atoms.length := by omega
        obtain ⟨a, hja⟩ : ∃ a, r.atoms[j] = a := ⟨_, rfl⟩
        have hg := HX.out.symm.trans (GIN.out j hjl a hja)
        have HRW := HA
        obtain ⟨bb, o, rfl, hcc⟩ := HA.out (by omega)
        obtain ⟨Q, qc, d0, _⟩ := hcc j hjl
        replace d0 := cell_keep hbel d0
        rw [hja] at d0
        obtain ⟨ng, hng⟩ : ∃ b, a.neg = b := ⟨_, rfl⟩
        rw [hng] at d0 hg
        have hdl := cell_lt d0
        have HJA := hid hja
        clear GOUT GIN HX hcc hng hja
        cases ng with
        | false =>
          rw [if_pos rfl] at hg
          injection hg with hg1 hg2
          subst hg1 hg2
          go_wp2_with fail
          refine (AW _).out.mono ?_
          rintro e w9 ⟨rfl, b9⟩
          have hb9 := hbel.trans (b9.mono hbel.size)
          clear b9
          go_wp2
          go_ret
          exact ⟨rfl, hb9⟩
        | true =>
          rw [if_neg (by simp)] at hg
          have C3' := C3 _ (HRW.out.below hbel) (HC.out.below hbel)
          have HG := hid hg
          clear hg C3
          go_wp2_with fail
          refine C3'.out.mono ?_
          rintro e w4 ⟨A, B, ca, cb, rfl, hA, hB, b4⟩
          have HB4 := hid (HB3.out.trans (b4.mono (by have := HB3.out.size; simpa using this)))
          have C4' := fun x hx => C4 A B ca cb j _ hA hjl x hx
          clear C3' b4 HB3 c0 c1 clt hbel d0 hdl hA hB C4
          obtain ⟨c0, c1, clt, hbel⟩ := rul_cells HB4.out
          cases hgg : guardG r.atoms a with
          | none =>
            have C5 := C4' (-1) (by rw [HJA.out, hgg]; rfl)
            have hg := HG.out
            rw [hgg] at hg
            injection hg with hg1 hg2
            subst hg1 hg2
            clear C4' HG hgg HJA
            go_wp2_with fail
            refine C5.out.mono ?_
            rintro e w5 ⟨rfl, b5⟩
            have hb5 := hbel.trans (b5.mono hbel.size)
            clear C5 b5
            go_wp2_with fail
            refine (AW _).out.mono ?_
            rintro e w9 ⟨rfl, b9⟩
            have hb9 := hb5.trans (b9.mono hb5.size)
            clear b9
            go_wp2
            go_ret
            exact ⟨rfl, hb9⟩
          | some n =>
            have C5 := C4' n (by rw [HJA.out, hgg]; rfl)
            have hg := HG.out
            rw [hgg] at hg
            injection hg with hg1 hg2
            subst hg1 hg2
            clear C4' HG hgg HJA
            go_wp2_with fail
            refine C5.out.mono ?_
            rintro e w5 ⟨rfl, b5⟩
            have hb5 := hbel.trans (b5.mono hbel.size)
            clear C5 b5
            go_wp2_with fail
            refine (AW _).out.mono ?_
            rintro e w9 ⟨rfl, b9⟩
            have hb9 := hb5.trans (b9.mono hb5.size)
            clear b9
            go_wp2
            go_ret
            exact ⟨rfl, hb9⟩
end Go.Proofs.Ytgeapgbebbapmaa
