/-
  PARTS of a claim, merged by segs.py: Ps3, Ps4, PsM, PsR, PgW.
-/
import Derived.Test.YtnbacdmlaedppaaGreatDoorQ13
import Derived.Test.YtnbacdmlaedppaaGreatDoorQ17
import Derived.Test.YtnbacdmlaedppaaGreatDoorQ07
import Derived.Test.YtnbacdmlaedppaaGreatDoorQ05
import Derived.Deep.RegionLaw
namespace Go.Proofs.YtnbacdmlaedppaaGreatDoor

/-! ### Ps3 -/
section
open Go.RowKit

def vV (v : V) : Value := .agg #[.int .i64 v.k, .int .i64 v.n, .string v.s]
/-- What constant returns. -/
def RetCo (w : World) (o : Option V) (e : Ending) (w' : World) : Prop := e = .returned (.tuple #[vV (o.getD V0), .bool o.isSome]) ∧ Below w.heap.size w w'

set_option maxRecDepth 100000 in
set_option maxHeartbeats 2000000 in
theorem ref_const (A : Option Addr) (c n i : Nat) (L : List Tok) (w : World) (hT : RefTk w A L) (hi : i < L.length + 3) (hn : n = L.length + 3) {x : Option V} (hx : constT (tkL L i) = x) :
    Calls Tryz.prog 98 #[.slice A n c, .int .i64 i] w (RetCo w x) := by
  obtain ⟨b, o, rfl, h0, h1⟩ := hT.cells hi
  have k0 := below_one w (.cells #[.int .i64 0, .int .i64 0, .string ⟨#[]⟩] 56)
  have hz := heap_alloc_new w (.cells #[.int .i64 0, .int .i64 0, .string ⟨#[]⟩] 56)
  have e0 := cell_keep k0 h0
  have e1 := cell_keep k0 h1
  have hb : i < n := by omega
  have hlit := hT.lit i
  have htx := hT.txt i
  clear hT hi hn h0 h1
  generalize tkL L i = t at *
  unfold constT at hx
  by_cases hk : t.k = 2 ∨ t.k = 3
  · rw [if_pos hk] at hx
    subst hx
    have HP := hid (ref_parse ⟨t.t.toArray⟩ (w.alloc (.cells #[.int .i64 0, .int .i64 0, .string ⟨#[]⟩] 56)) (by simpa [ByteArray.size] using htx) (x := (t.v, 0)) (by simpa using hlit hk))
    unfold RetV at HP
    have hz2 := hid hz
    clear hlit htx hz
    rcases hk with hk | hk
    all_goals
      rw [hk] at e0
      clear hk
      go_enter Tryz.func98, Tryz.ntmps98
      go_wp2_with fail
      refine HP.out.mono ?_
      rintro e w2 ⟨rfl, b2⟩
      have k2 := k0.trans (b2.mono k0.size)
      have hz3 := (Below.heap_alloc w2 (.cells #[.int .i64 t.v.k, .int .i64 t.v.n, .string t.v.s] 79) w.heap.size (by have := b2.size; simp at this; omega)).trans ((b2.block _ (by simp)).trans hz2.out)
      have k3 : Below w.heap.size w (w2.alloc (.cells #[.int .i64 t.v.k, .int .i64 t.v.n, .string t.v.s] 79)) := k2.alloc k2.size _
      clear b2 HP
      go_wp2_with (refine wpList_store_res rfl rfl rfl rfl hz3 infoVal rfl rfl ?_; intro w3 hz4 hb3)
      refine bodyPost_ret (by simp [results, Tryz.results98, go_sem, cell_res hz4]; rfl) rfl ?_
      exact ⟨rfl, k3.trans hb3⟩
  · rw [if_neg hk] at hx
    subst hx
    have d2 : (t.k != 2) = true := by simpa using fun h => hk (Or.inl h)
    have d3 : (t.k != 3) = true := by simpa using fun h => hk (Or.inr h)
    clear hlit htx hk
    go_enter Tryz.func98, Tryz.ntmps98
    go_wp2
    refine bodyPost_ret (by simp [results, Tryz.results98, go_sem, cell_res hz]; rfl) rfl ?_
    exact ⟨rfl, k0⟩
end

/-! ### Ps4 -/
section
open Go.RowKit

theorem infoTrP : (Tryz.prog.info? 146).map (fun i => (i.zero, i.size, i.bytes)) = some (some (.agg #[.string ⟨#[]⟩, .int .i64 0, .int .i64 0, .string ⟨#[]⟩]), 4, 48) := by kernel_rfl
/-- What terms returns. -/
def RetTs (w : World) (o : Out (List Trm)) (e : Ending) (w' : World) : Prop := match o with
  | .bad b => (∃ nx : Int, e = .returned (.tuple #[.slice none 0 0, .int .i64 nx, .int .i64 b])) ∧ Below w.heap.size w w'
  | .ok l nx => ∃ u, e = .returned (.tuple #[u, .int .i64 nx, .int .i64 (-1)]) ∧ w'.ownsRow w.heap.size 146 4 u l.length (l.flatMap cellsT) ∧ Below w.heap.size w w'
abbrev valO (v : V) : Obj := .cells #[.int .i64 v.k, .int .i64 v.n, .string v.s] 56

set_option maxRecDepth 100000 in
set_option maxHeartbeats 4000000 in
theorem ref_terms (A : Option Addr) (c n i : Nat) (L : List Tok) (w : World) (hT : RefTk w A L) (hi : i < L.length) (hn : n = L.length + 3) {x : Out (List Trm)} (hx : parenS (tkL L) L.length i = x) :
    Calls Tryz.prog 96 #[.slice A n c, .int .i64 i] w (RetTs w x) := by
  obtain ⟨i0, hi0, hz0, hz1, hz2⟩ := info_parts infoTrP
  have HT := hid hT
  have HIs := hid (fun (W : World) (kW : Below w.heap.size w W) (s : Str) (j : Nat) (hj : j < L.length + 3) (z : Bool) (hz : isT (tkL L j) s = z) => ref_is A c n j L s W (hT.below kW) hj hn hz)
  have HCo := hid (fun (W : World) (kW : Below w.heap.size w W) (j : Nat) (hj : j < L.length + 3) (o : Option V) (ho : constT (tkL L j) = o) => ref_const A c n j L W (hT.below kW) hj hn ho)
  have hL := hT.few
  have hln : L.length ≤ n := by omega
  unfold parenS at hx
  obtain ⟨y, hy⟩ : ∃ y, isT (tkL L i) sShut = y := ⟨_, rfl⟩
  have hI0 := hid (HIs.out w (Below.refl _ _) sShut i (by omega) y hy)
  rw [hy] at hx
  clear hT hn hy
  cases y with
  | true =>
    rw [if_pos rfl] at hx
    subst hx
    clear HIs HCo HT
    go_enter Tryz.func96, Tryz.ntmps96
    go_wp2_with fail
    refine hI0.out.mono ?_
    rintro e w1 ⟨rfl, b1⟩
    go_wp2
    go_ret3
    exact ⟨_, rfl, World.ownsRow_nil _ _ _ _, b1⟩
  | false =>
    rw [if_neg (by decide)] at hx
    have HX := hid hx
    clear hx
    go_enter Tryz.func96, Tryz.ntmps96
    go_wp2_with fail
    refine hI0.out.mono ?_
    rintro e w1 ⟨rfl, b1⟩
    have B1 := hid b1
    clear b1 hI0
    go_wp2
    go_loopw [1, 7] (fun vi vo wr => ∃ (f j : Nat) (acc : List Trm), vi = .int .i64 j ∧ j < L.length ∧ L.length ≤ f + j ∧ acc.length ≤ j ∧ Hid (termsS (tkL L) f j acc = x) ∧ Hid (wr.ownsRow w.heap.size 146 4 vo acc.length (acc.flatMap cellsT)) ∧ Below w.heap.size w wr) (fun vi _ _ => L.length - (intOf vi).toNat)
    case atStart => exact ⟨L.length, i, [], rfl, hi, by omega, by simp, HX, hid (World.ownsRow_nil _ _ _ _), B1.out⟩
    case round =>
      obtain ⟨f, j, acc, rfl, hj, hf, ha, HS, HO, hbel⟩ := hrel
      clear HX B1
      have hsz := hbel.size
      obtain ⟨b, o, rfl, h0, h1⟩ := (HT.out.below hbel).cells (show j < L.length + 3 by omega)
      have hE := HT.out.ended
      obtain ⟨f', hf'⟩ : ∃ g, f = g + 1 := ⟨f - 1, by omega⟩
      have hS := HS.out
      rw [hf'] at hS
      unfold termsS at hS
      obtain ⟨oc, hoc⟩ : ∃ oc, constT (tkL L j) = oc := ⟨_, rfl⟩
      have hC := HCo.out wr hbel j (by omega) oc hoc
      unfold RetCo vV at hC
      have HJ := hid (fun jj s (hz : isT (tkL L jj) s = true) => hE.isT hz)
      have HT1 := hid (fun t (ht : termT (tkL L j) = some t) => hE.term ht)
      have Hf := hid hf'
      have HTm : Hid (termT (tkL L j) = if (tkL L j).k = 1 then some ⟨(tkL L j).t, V0⟩ else oc.map fun v => ⟨[], v⟩) := hid (by unfold termT; rw [hoc])
      have hnone : (tkL L j).k = 1 → oc = none := fun hk => by rw [← hoc]; unfold constT; rw [if_neg (by rw [hk]; decide)]
      obtain ⟨tm, htm⟩ : ∃ tm, termT (tkL L j) = tm := ⟨_, rfl⟩
      rw [htm] at hS HTm
      have HC := hid hC
      have HS2 := hid hS
      have HTr := hid (fun t (ht : tm = some t) => HT1.out t (htm.trans ht))
      clear hC hS HS hoc htm HT1 hE hf' HCo
      generalize tkL L j = t at *
      by_cases hk : t.k = 1
      · have hon := hnone hk
        subst hon
        rw [if_pos hk] at HTm
        have htm := HTm.out
        subst htm
        have hS := HS2.out
        have hj1 := HTr.out _ rfl
        rw [hk] at h0
        simp only at hS
        clear hk hnone HS2 HTr HTm
        have HC2 : Hid (Calls Tryz.prog 98 #[.slice (some ⟨b, o, none⟩) n c, .int .i64 j] wr fun e w' => e = .returned (.tuple #[.agg #[.int .i64 0, .int .i64 0, .string ⟨#[]⟩], .bool false]) ∧ Below wr.heap.size wr w') := HC
        go_wp2_with fail
        refine HC2.out.mono ?_
        rintro e w2 ⟨rfl, b2⟩
        have k2 := hbel.trans (b2.mono hsz)
        have HO2 := hid (own_belowS HO.out b2)
        have hs2 := k2.size
        have g0 := cell_keep b2 h0
        have g1 := cell_keep b2 h1
        have hbl : b < w2.heap.size := cell_lt g0
        have k3 : Below w.heap.size w (w2.alloc (valO (V0))) := k2.alloc hs2 _
        have HO3 := hid (own_belowS HO2.out (below_one w2 (valO (V0))))
        have hown := HO3.out
        clear b2 HC HC2 HO HO2 h0 h1
        go_upto_region 10 with (at_builtin; refine wpList_append_new2 Tryz.underlying109 hi0 hz0 hz1 hz2 rfl (by decide) (by decide) rfl rfl rfl hown rfl (by simp) rfl rfl (by omega) (by simp; omega) ?_; intro v5 w5 hown5 hg5)
        have k5 : Below w.heap.size w w5 := k3.trans (grown_below hown hg5 (by simp; omega))
        have HO5 : Hid (w5.ownsRow w.heap.size 146 4 v5 (acc ++ [(⟨t.t, V0⟩ : Trm)]).length ((acc ++ [(⟨t.t, V0⟩ : Trm)]).flatMap cellsT)) := hid (by rw [List.flatMap_append, List.length_append]; exact hown5)
        clear hown hown5 hg5 HO3 g0 g1 k3
        obtain ⟨z, hz⟩ : ∃ z, isT (tkL L (j + 1)) sShut = z := ⟨_, rfl⟩
        obtain ⟨y, hy⟩ : ∃ y, isT (tkL L (j + 1)) sComma = y := ⟨_, rfl⟩
        have hI1 := HIs.out w5 k5 sShut (j + 1) (by omega) z hz
        have HI2 := hid (fun W kW => HIs.out W kW sComma (j + 1) (by omega) y hy)
        have hj2 : y = true → j + 2 < L.length := fun h => HJ.out (j + 1) sComma (hy.trans h)
        rw [hz, hy] at hS
        rw [show (((j + 1 : Nat)) : Int) = (j : Int) + 1 by omega] at hI1
        have HI1 := hid hI1
        clear hI1 HIs HJ hz hy
        cases z with
        | true =>
          rw [if_pos rfl] at hS
          subst hS
          clear HI2 hj2
          go_wp2_with fail
          refine HI1.out.mono ?_
          rintro e w6 ⟨rfl, b6⟩
          have k6 := k5.trans (b6.mono k5.size)
          have HO6 := hid (own_belowS HO5.out b6)
          go_wp2
          go_ret3
          exact ⟨v5, rfl, HO6.out, k6⟩
        | false =>
          rw [if_neg (by decide)] at hS
          go_wp2_with fail
          refine HI1.out.mono ?_
          rintro e w6 ⟨rfl, b6⟩
          have k6 := k5.trans (b6.mono k5.size)
          have HO6 := hid (own_belowS HO5.out b6)
          have hI2 := HI2.out w6 k6
          rw [show (((j + 1 : Nat)) : Int) = (j : Int) + 1 by omega] at hI2
          have HI3 := hid hI2
          clear hI2 HI2 HI1 b6 HO5
          cases y with
          | true =>
            rw [if_pos rfl] at hS
            have hS3 := hid hS
            have j2 := hj2 rfl
            clear hS hj2
            go_wp2_with fail
            refine HI3.out.mono ?_
            rintro e w7 ⟨rfl, b7⟩
            have k7 := k6.trans (b7.mono k6.size)
            have HO7 := hid (own_belowS HO6.out b7)
            go_wp2
            go_roundw
            case rel => exact ⟨f', j + 2, _, by go_num, j2, by have := Hf.out; omega, by simp; omega, hS3, HO7, k7⟩
            case measure => simp [intOf]; omega
          | false =>
            rw [if_neg (by decide)] at hS
            subst hS
            clear hj2
            go_wp2_with fail
            refine HI3.out.mono ?_
            rintro e w7 ⟨rfl, b7⟩
            have k7 := k6.trans (b7.mono k6.size)
            go_wp2
            go_ret3
            exact ⟨⟨_, rfl⟩, k7⟩
      · rw [if_neg hk] at HTm
        have dk : (t.k == 1) = false := by simpa using hk
        cases oc with
        | some v =>
          have htm : tm = some ⟨[], v⟩ := HTm.out
          subst htm
          have hS := HS2.out
          have hj1 := HTr.out _ rfl
          simp only at hS
          clear hk hnone HS2 HTr HTm
          have HC2 : Hid (Calls Tryz.prog 98 #[.slice (some ⟨b, o, none⟩) n c, .int .i64 j] wr fun e w' => e = .returned (.tuple #[.agg #[.int .i64 v.k, .int .i64 v.n, .string v.s], .bool true]) ∧ Below wr.heap.size wr w') := HC
          go_wp2_with fail
          refine HC2.out.mono ?_
          rintro e w2 ⟨rfl, b2⟩
          have k2 := hbel.trans (b2.mono hsz)
          have HO2 := hid (own_belowS HO.out b2)
          have hs2 := k2.size
          have g0 := cell_keep b2 h0
          have g1 := cell_keep b2 h1
          have hbl : b < w2.heap.size := cell_lt g0
          have k3 : Below w.heap.size w (w2.alloc (valO (v))) := k2.alloc hs2 _
          have HO3 := hid (own_belowS HO2.out (below_one w2 (valO (v))))
          have hown := HO3.out
          clear b2 HC HC2 HO HO2 h0 h1
          have q0 : (w2.alloc (valO v)).cell? ⟨w2.heap.size, 0, none⟩ = some (.int .i64 v.k) := box_cell (heap_alloc_new w2 (valO v)) 0
          go_upto_region 10 with (at_builtin; refine wpList_append_new2 Tryz.underlying109 hi0 hz0 hz1 hz2 rfl (by decide) (by decide) rfl rfl rfl hown rfl (by simp) rfl rfl (by omega) (by simp; omega) ?_; intro v5 w5 hown5 hg5)
          have k5 : Below w.heap.size w w5 := k3.trans (grown_below hown hg5 (by simp; omega))
          have HO5 : Hid (w5.ownsRow w.heap.size 146 4 v5 (acc ++ [(⟨[], v⟩ : Trm)]).length ((acc ++ [(⟨[], v⟩ : Trm)]).flatMap cellsT)) := hid (by rw [List.flatMap_append, List.length_append]; exact hown5)
          clear hown hown5 hg5 HO3 g0 g1 k3
          obtain ⟨z, hz⟩ : ∃ z, isT (tkL L (j + 1)) sShut = z := ⟨_, rfl⟩
          obtain ⟨y, hy⟩ : ∃ y, isT (tkL L (j + 1)) sComma = y := ⟨_, rfl⟩
          have hI1 := HIs.out w5 k5 sShut (j + 1) (by omega) z hz
          have HI2 := hid (fun W kW => HIs.out W kW sComma (j + 1) (by omega) y hy)
          have hj2 : y = true → j + 2 < L.length := fun h => HJ.out (j + 1) sComma (hy.trans h)
          rw [hz, hy] at hS
          rw [show (((j + 1 : Nat)) : Int) = (j : Int) + 1 by omega] at hI1
          have HI1 := hid hI1
          clear hI1 HIs HJ hz hy
          cases z with
          | true =>
            rw [if_pos rfl] at hS
            subst hS
            clear HI2 hj2
            go_wp2_with fail
            refine HI1.out.mono ?_
            rintro e w6 ⟨rfl, b6⟩
            have k6 := k5.trans (b6.mono k5.size)
            have HO6 := hid (own_belowS HO5.out b6)
            go_wp2
            go_ret3
            exact ⟨v5, rfl, HO6.out, k6⟩
          | false =>
            rw [if_neg (by decide)] at hS
            go_wp2_with fail
            refine HI1.out.mono ?_
            rintro e w6 ⟨rfl, b6⟩
            have k6 := k5.trans (b6.mono k5.size)
            have HO6 := hid (own_belowS HO5.out b6)
            have hI2 := HI2.out w6 k6
            rw [show (((j + 1 : Nat)) : Int) = (j : Int) + 1 by omega] at hI2
            have HI3 := hid hI2
            clear hI2 HI2 HI1 b6 HO5
            cases y with
            | true =>
              rw [if_pos rfl] at hS
              have hS3 := hid hS
              have j2 := hj2 rfl
              clear hS hj2
              go_wp2_with fail
              refine HI3.out.mono ?_
              rintro e w7 ⟨rfl, b7⟩
              have k7 := k6.trans (b7.mono k6.size)
              have HO7 := hid (own_belowS HO6.out b7)
              go_wp2
              go_roundw
              case rel => exact ⟨f', j + 2, _, by go_num, j2, by have := Hf.out; omega, by simp; omega, hS3, HO7, k7⟩
              case measure => simp [intOf]; omega
            | false =>
              rw [if_neg (by decide)] at hS
              subst hS
              clear hj2
              go_wp2_with fail
              refine HI3.out.mono ?_
              rintro e w7 ⟨rfl, b7⟩
              have k7 := k6.trans (b7.mono k6.size)
              go_wp2
              go_ret3
              exact ⟨⟨_, rfl⟩, k7⟩
        | none =>
          have htm : tm = none := HTm.out
          subst htm
          have hS := HS2.out
          simp only at hS
          subst hS
          clear hk hnone HS2 HTr HTm
          have HC2 : Hid (Calls Tryz.prog 98 #[.slice (some ⟨b, o, none⟩) n c, .int .i64 j] wr fun e w' => e = .returned (.tuple #[.agg #[.int .i64 0, .int .i64 0, .string ⟨#[]⟩], .bool false]) ∧ Below wr.heap.size wr w') := HC
          go_wp2_with fail
          refine HC2.out.mono ?_
          rintro e w2 ⟨rfl, b2⟩
          have k2 := hbel.trans (b2.mono hsz)
          have HO2 := hid (own_belowS HO.out b2)
          have hs2 := k2.size
          have g0 := cell_keep b2 h0
          have g1 := cell_keep b2 h1
          have hbl : b < w2.heap.size := cell_lt g0
          have k3 : Below w.heap.size w (w2.alloc (valO (V0))) := k2.alloc hs2 _
          have HO3 := hid (own_belowS HO2.out (below_one w2 (valO (V0))))
          have hown := HO3.out
          clear b2 HC HC2 HO HO2 h0 h1
          clear hown
          go_wp2
          go_ret3
          exact ⟨⟨_, rfl⟩, k3⟩
end

/-! ### PsM -/
section
open Go.RowKit

/-- Of the blocks that lay in w those of S alone may have turned. -/
structure Chg (S : List Nat) (w w' : World) : Prop where
  os : w'.os = w.os
  tape : w'.tape = w.tape
  output : w'.output = w.output
  size : w.heap.size ≤ w'.heap.size
  block : ∀ k, k < w.heap.size → k ∉ S → w'.heap[k]? = w.heap[k]?
section
variable {S T : List Nat} {w w1 w2 w3 : World}
theorem Chg.refl (S : List Nat) (w : World) : Chg S w w := ⟨rfl, rfl, rfl, Nat.le_refl _, fun _ _ _ => rfl⟩
theorem Chg.trans (h : Chg S w w1) (k : Chg S w1 w2) : Chg S w w2 :=
  ⟨k.os.trans h.os, k.tape.trans h.tape, k.output.trans h.output, Nat.le_trans h.size k.size, fun j hj hs => (k.block j (Nat.lt_of_lt_of_le hj h.size) hs).trans (h.block j hj hs)⟩
/-- What follows turns blocks of S and blocks that did not lie in w. -/
theorem Chg.then (h : Chg S w w1) (k : Chg T w1 w2) (hT : ∀ t ∈ T, t ∈ S ∨ w.heap.size ≤ t) : Chg S w w2 :=
  ⟨k.os.trans h.os, k.tape.trans h.tape, k.output.trans h.output, Nat.le_trans h.size k.size, fun j hj hs => (k.block j (Nat.lt_of_lt_of_le hj h.size) (fun ht => by
    rcases hT j ht with h1 | h1
    · exact hs h1
    · omega)).trans (h.block j hj hs)⟩
theorem Chg.mono (h : Chg S w w1) (hS : ∀ s ∈ S, s ∈ T) : Chg T w w1 := ⟨h.os, h.tape, h.output, h.size, fun j hj hs => h.block j hj (fun h1 => hs (hS j h1))⟩
theorem chg_below (h : Below w.heap.size w w1) : Chg S w w1 := ⟨h.os, h.tape, h.output, h.size, fun k hk _ => h.block k hk⟩
theorem Chg.below {B : Nat} (h : Chg S w w1) (hS : ∀ s ∈ S, B ≤ s) (hB : B ≤ w.heap.size) : Below B w w1 :=
  ⟨h.os, h.tape, h.output, h.size, fun k hk => h.block k (by omega) (fun h1 => by have := hS k h1; omega)⟩
theorem Chg.set (h : Chg S w w1) {b : Nat} (hb : b ∈ S ∨ w.heap.size ≤ b) (i : Nat) (v : Value) : Chg S w (w1.setCell ⟨b, i, none⟩ v) :=
  ⟨h.os, h.tape, h.output, by simpa [World.setCell] using h.size, fun j hj hs => (Below.heap_setCell w1 ⟨b, i, none⟩ v j (fun e => by
    rcases hb with hb | hb
    · exact hs (e ▸ hb)
    · have : j = b := e
      omega)).trans (h.block j hj hs)⟩
theorem Chg.cell (h : Chg S w w1) {b o : Nat} {v : Value} (hc : w.cell? ⟨b, o, none⟩ = some v) (hb : b ∉ S) : w1.cell? ⟨b, o, none⟩ = some v :=
  (World.cell?_of_block (a := ⟨b, o, none⟩) (h.block b (cell_lt hc) hb)).trans hc
theorem Chg.grown (h : Chg S w w1) {x : Option Nat} (k : w1.grownBy w2 x) (hx : ∀ b, x = some b → b ∈ S ∨ w.heap.size ≤ b) : Chg S w w2 :=
  ⟨k.os.trans h.os, k.tape.trans h.tape, k.output.trans h.output, Nat.le_trans h.size k.size, fun j hj hs => (k.block j (Nat.lt_of_lt_of_le hj h.size) (fun e => by
    rcases hx j e.symm with h1 | h1
    · exact hs h1
    · omega)).trans (h.block j hj hs)⟩
theorem Chg.toks (h : Chg S w w1) {A : Option Addr} {l : List Tok} (hT : TokAt w A l) (hA : ∀ ad, A = some ad → ad.block ∉ S) : TokAt w1 A l := fun hp => by
  obtain ⟨b, o, e, hc⟩ := hT hp
  have hb := hA _ e
  refine ⟨b, o, e, fun i hi => ?_⟩
  obtain ⟨h0, h1, h2, h3, h4, h5⟩ := hc i hi
  exact ⟨h.cell h0 hb, h.cell h1 hb, h.cell h2 hb, h.cell h3 hb, h.cell h4 hb, h.cell h5 hb⟩
theorem Chg.own (h : Chg S w w1) {B e k n : Nat} {v : Value} {xs : List Value} (ho : w.ownsRow B e k v n xs) (hv : ∀ b, v.ownBlock = some b → b ∉ S) : w1.ownsRow B e k v n xs := by
  obtain ⟨hl, h0 | ⟨g, cap, cur, rfl, hB, hh, r⟩⟩ := ho
  · exact ⟨hl, .inl h0⟩
  · exact ⟨hl, .inr ⟨g, cap, cur, rfl, hB, (h.block g (lt_of_block hh) (hv g rfl)).trans hh, r⟩⟩
end
end

/-! ### PsR -/
section
open Go.RowKit

theorem infoAtP : (Tryz.prog.info? 111).map (fun i => (i.zero, i.size, i.bytes)) = some (some (.agg #[.bool false, .string ⟨#[]⟩, .slice none 0 0]), 3, 48) := by kernel_rfl
theorem infoCnP : (Tryz.prog.info? 115).map (fun i => (i.zero, i.size, i.bytes)) = some (some (.agg #[.string ⟨#[]⟩, .int .i64 0, .int .i64 0, .int .i64 0, .string ⟨#[]⟩]), 5, 56) := by kernel_rfl
theorem infoRlP : (Tryz.prog.info? 42).map (·.size) = some 2 := by kernel_rfl
/-- Tokens that lie below B. -/
def TokB (A : Option Addr) (B : Nat) : Prop := ∀ ad, A = some ad → ad.block < B
theorem RefTk.on {w w' : World} {A : Option Addr} {L : List Tok} {B : Nat} (h : RefTk w A L) (hA : TokB A B) (hb : Below B w w') : RefTk w' A L :=
  ⟨fun hp => (by
    obtain ⟨b, o, e, hc⟩ := h.at_ hp
    have hlt : b < B := hA _ e
    refine ⟨b, o, e, fun i hi => ?_⟩
    obtain ⟨h0, h1, h2, h3, h4, h5⟩ := hc i hi
    exact ⟨(hb.cell (p := ⟨b, _, none⟩) hlt).trans h0, (hb.cell (p := ⟨b, _, none⟩) hlt).trans h1, (hb.cell (p := ⟨b, _, none⟩) hlt).trans h2, (hb.cell (p := ⟨b, _, none⟩) hlt).trans h3, (hb.cell (p := ⟨b, _, none⟩) hlt).trans h4, (hb.cell (p := ⟨b, _, none⟩) hlt).trans h5⟩), h.ended, h.few, h.txt, h.lit⟩
/-- A rule of the call's own: the slices of its atoms and conditions. -/
def OwnRl (w : World) (B : Nat) (ua uc : Value) (r : Rul) : Prop := OwnAts w B ua r.atoms ∧ w.ownsRow B 115 5 uc r.conds.length (r.conds.flatMap cellsC)
theorem OwnRl.below {w w' : World} {B : Nat} {ua uc : Value} {r : Rul} (h : OwnRl w B ua uc r) (hb : Below w.heap.size w w') : OwnRl w' B ua uc r := ⟨h.1.below hb, own_belowS h.2 hb⟩
theorem OwnRl.shape {w : World} {B : Nat} {ua uc : Value} {r : Rul} (h : OwnRl w B ua uc r) : ∃ Aa ca Ac cc, ua = .slice Aa r.atoms.length ca ∧ uc = .slice Ac r.conds.length cc := by
  obtain ⟨us, h0, h1, h2⟩ := h.1
  obtain ⟨Aa, ca, e1⟩ := own_shape h1
  obtain ⟨Ac, cc, e2⟩ := own_shape h.2
  exact ⟨Aa, ca, Ac, cc, e1, e2⟩
theorem box_own {w : World} {g : Nat} {a b : Value} (h : w.heap[g]? = some (.cells #[a, b] 42)) : w.ownsRow g 42 2 (.slice (some ⟨g, 0, none⟩) 1 1) 1 [a, b] :=
  ⟨rfl, .inr ⟨g, 1, #[a, b], rfl, Nat.le_refl _, h, Nat.le_refl _, by unfold maxLen; omega, rfl, rfl⟩⟩
/-- A change of a box that holds a rule. -/
theorem OwnRl.box {w w' : World} {B g : Nat} {ua uc a b : Value} {r : Rul} (h : OwnRl w B ua uc r) (hb : w.heap[g]? = some (.cells #[a, b] 42)) (hg : w.grownBy w' (some g)) : OwnRl w' B ua uc r :=
  ⟨h.1.kept (box_own hb) (by decide) hg, h.2.kept hg (ren_apart h.2 (box_own hb) (by decide))⟩
theorem grown_below' {w w' : World} {B g : Nat} (h : w.grownBy w' (some g)) (hg : B ≤ g) (hB : B ≤ w.heap.size) : Below B w w' := ⟨h.os, h.tape, h.output, h.size, fun k hk => h.block k (by omega) (fun e => by injection e; omega)⟩
/-- What item returns, and rule. -/
def RetRu (B : Nat) (w : World) (o : Out Rul) (e : Ending) (w' : World) : Prop := (match o with
  | .bad b => ∃ (A1 : Option Addr) (n1 c1 : Nat) (A2 : Option Addr) (n2 c2 : Nat) (nx : Int), e = .returned (.tuple #[.agg #[.slice A1 n1 c1, .slice A2 n2 c2], .int .i64 nx, .int .i64 b])
  | .ok r nx => ∃ ua uc, e = .returned (.tuple #[.agg #[ua, uc], .int .i64 nx, .int .i64 (-1)]) ∧ OwnRl w' B ua uc r) ∧ Below B w w'
abbrev rulO (ua uc : Value) : Obj := .cells #[ua, uc] 42
end

/-! ### PgW -/
section
open Go.RowKit

abbrev prsO (A : Option Addr) (n c : Nat) (k : Nat) : Obj := .cells #[.slice A n c, .int .i64 k] 71
/-- The parser's box bp, the next token is token k of L. -/
structure PW (bp : Nat) (A : Option Addr) (c : Nat) (L : List Tok) (k : Nat) (w : World) : Prop where
  box : w.heap[bp]? = some (prsO A L.length c k)
  toks : TokAt w A L
  ended : Ended L
  few : L.length ≤ 70000
  apart : ∀ ad, A = some ad → ad.block < bp
  lt : k < L.length
section
variable {bp c k : Nat} {A : Option Addr} {L : List Tok} {w w' : World} {S : List Nat}
theorem PW.block_lt (h : PW bp A c L k w) : bp < w.heap.size := lt_of_block h.box
theorem PW.below (h : PW bp A c L k w) (hb : Below w.heap.size w w') : PW bp A c L k w' := ⟨(hb.block bp h.block_lt).trans h.box, h.toks.below hb, h.ended, h.few, h.apart, h.lt⟩
theorem PW.chg (h : PW bp A c L k w) (hc : Chg S w w') (hS : ∀ s ∈ S, bp < s) : PW bp A c L k w' :=
  ⟨(hc.block bp h.block_lt (fun hm => by have := hS bp hm; omega)).trans h.box, hc.toks h.toks (fun ad e hm => by have := hS _ hm; have := h.apart ad e; omega), h.ended, h.few, h.apart, h.lt⟩
theorem PW.grown (h : PW bp A c L k w) {x : Option Nat} (hg : w.grownBy w' x) (hx : ∀ b, x = some b → bp < b) : PW bp A c L k w' :=
  h.chg (S := x.toList) ((Chg.refl _ _).grown hg (fun b e => .inl (by rw [e]; simp))) (fun s hs => by
    cases x with
    | none => simp at hs
    | some b => simp at hs; subst hs; exact hx s rfl)
theorem PW.step (h : PW bp A c L k w) {j : Nat} (hj : j < L.length) : PW bp A c L j (w.setCell ⟨bp, 1, none⟩ (.int .i64 j)) :=
  ⟨heap_setCell_same w bp 1 _ _ _ h.box, (((Chg.refl [bp] w).set (.inl (by simp)) 1 (.int .i64 j)).toks h.toks (fun ad e hm => by have := h.apart ad e; simp at hm; omega)), h.ended, h.few, h.apart, hj⟩
theorem PW.cells (h : PW bp A c L k w) : w.cell? ⟨bp, 0, none⟩ = some (.slice A L.length c) ∧ w.cell? ⟨bp, 1, none⟩ = some (.int .i64 k) := by
  constructor
  · rw [cell_of_row _ bp 0 _ _ _ h.box]; rfl
  · rw [cell_of_row _ bp 1 _ _ _ h.box]; rfl
/-- The cells of the next token. -/
theorem PW.tok (h : PW bp A c L k w) : ∃ b o, A = some ⟨b, o, none⟩ ∧
    w.cell? ⟨b, o + k * 6, none⟩ = some (.int .i64 (tkL L k).k) ∧ w.cell? ⟨b, o + k * 6 + 1, none⟩ = some (.string ⟨(tkL L k).t.toArray⟩) ∧ w.cell? ⟨b, o + k * 6 + 2, none⟩ = some (.int .i64 (tkL L k).v.k) ∧ w.cell? ⟨b, o + k * 6 + 3, none⟩ = some (.int .i64 (tkL L k).v.n) ∧ w.cell? ⟨b, o + k * 6 + 4, none⟩ = some (.string (tkL L k).v.s) ∧ w.cell? ⟨b, o + k * 6 + 5, none⟩ = some (.int .i64 (tkL L k).a) := by
  obtain ⟨b, o, e, hc⟩ := h.toks h.ended.pos
  refine ⟨b, o, e, ?_⟩
  rw [tkL_at h.lt]
  exact hc k h.lt
/-- A row of the call's own that lies above the boxes that turn. -/
theorem Chg.ownS {B e z n : Nat} {v : Value} {xs : List Value} (hc : Chg S w w') (h : w.ownsRow B e z v n xs) (hS : ∀ s ∈ S, s < B) : w'.ownsRow B e z v n xs := hc.own h (fun b e hm => by have := (h.lt b e).1; have := hS b hm; omega)
theorem OwnAts.chg {B : Nat} {u : Value} {l : List Atm} (h : OwnAts w B u l) (hc : Chg S w w') (hS : ∀ s ∈ S, s < B) : OwnAts w' B u l :=
  let ⟨us, h0, h1, h2⟩ := h; ⟨us, h0, hc.ownS h1 hS, fun i hi hi' => hc.ownS (h2 i hi hi') hS⟩
theorem OwnRl.chg {B : Nat} {ua uc : Value} {r : Rul} (h : OwnRl w B ua uc r) (hc : Chg S w w') (hS : ∀ s ∈ S, s < B) : OwnRl w' B ua uc r := ⟨h.1.chg hc hS, hc.ownS h.2 hS⟩
theorem OwnRls.chg {B : Nat} {u : Value} {l : List Rul} (h : OwnRls w B u l) (hc : Chg S w w') (hS : ∀ s ∈ S, s < B) : OwnRls w' B u l :=
  let ⟨us, vs, h0, h1, h2, h3⟩ := h; ⟨us, vs, h0, h1, hc.ownS h2 hS, fun i a b d => ⟨(h3 i a b d).1.chg hc hS, hc.ownS (h3 i a b d).2 hS⟩⟩
end
/-- What a method of the parser answers: whether it fits, the next token; R of what it has made. -/
def RetO {σ : Type} (bp : Nat) (A : Option Addr) (c : Nat) (L : List Tok) (S : List Nat) (w : World) (o : Out σ) (Rb : World → Prop) (R : σ → World → Prop) (e : Ending) (w' : World) : Prop := (match o with
  | .bad b => e = .returned (.bool false) ∧ PW bp A c L b w' ∧ Rb w'
  | .ok x nx => e = .returned (.bool true) ∧ PW bp A c L nx w' ∧ R x w') ∧ Chg S w w'
/-- What it answers of one token. -/
def RetZ (bp : Nat) (A : Option Addr) (c : Nat) (L : List Tok) (k : Nat) (z : Bool) (w : World) (e : Ending) (w' : World) : Prop :=
  e = .returned (.bool z) ∧ PW bp A c L (if z = true then k + 1 else k) w' ∧ Chg [bp] w w'
end
end Go.Proofs.YtnbacdmlaedppaaGreatDoor
