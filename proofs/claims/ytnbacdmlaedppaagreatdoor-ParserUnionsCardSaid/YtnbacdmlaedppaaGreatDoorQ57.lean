/-
  PARTS of a claim, merged by segs.py: PuU, OpenN.
-/
import Derived.Test.YtnbacdmlaedppaaGreatDoorQ37
import Derived.Test.YtnbacdmlaedppaaGreatDoorQ47
import Derived.Test.YtnbacdmlaedppaaGreatDoorQ52
import Derived.Test.YtnbacdmlaedppaaGreatDoorQ28
import Derived.Test.YtnbacdmlaedppaaGreatDoorQ44
import Derived.Test.YtnbacdmlaedppaaGreatDoorShelf
import Derived.Test.YtnbacdmlaedppaaGreatDoorQ09
import Derived.Deep.RegionHeld3
namespace Go.Proofs.YtnbacdmlaedppaaGreatDoor

/-! ### PuU -/
section
open Go.RowKit

theorem join_flat (x : Str) (l : List Str) (s : Str) : Lib.join (x :: l) s = x ++ l.flatMap fun y => s ++ y := by
  rw [Lib.join_cons]; unfold Lib.joinTail; show _ = x ++ List.flatMap (fun y => s ++ y) l; rw [List.flatMap_def]
theorem flat_len {s : Str} {b n : Nat} (hs : s.length = b) : ∀ (l : List Str), (∀ x ∈ l, x.length ≤ n) → (l.flatMap fun y => s ++ y).length ≤ l.length * (b + n)
  | [], _ => by simp
  | x :: l, h => by
    have ih := flat_len hs l (fun y hy => h y (List.mem_cons_of_mem _ hy))
    have h1 := h x (List.mem_cons_self ..)
    rw [List.flatMap_cons, List.length_append, List.length_append, List.length_cons, Nat.add_mul]
    omega
/-- The rules of the texts. -/
def GoodR (l : List Str) (rs : List Rul) : Prop := ∀ j (h1 : j < l.length) (h2 : j < rs.length), l[j].length ≤ 300 ∧ ∃ a, parseR (scanL l[j]) = (rs[j], a, 0)
theorem GoodR.push {l : List Str} {rs : List Rul} {r : Rul} {k : Nat} (h : GoodR l rs) (hk : rs.length = k) (hl : k < l.length) {a : Int} (h1 : l[k].length ≤ 300) (h2 : parseR (scanL l[k]) = (r, a, 0)) : GoodR l (rs ++ [r]) := by
  subst hk
  intro j hj hj2
  by_cases hh : j < rs.length
  · rw [List.getElem_append_left hh]; exact h j hj hh
  · have : j = rs.length := by simp at hj2; omega
    subst this
    refine ⟨h1, a, ?_⟩
    rw [h2]; simp
theorem join_le {l : List Str} {rs : List Rul} (hlen : rs.length = l.length) (h3 : l.length ≤ 3) (hg : GoodR l rs) : (Lib.join l barL).length ≤ 1000 := by
  match l, hlen, h3, hg with
  | [], _, _, _ => simp [Lib.join]
  | x :: l, hlen, h3, hg =>
    have h0 : ∀ y ∈ x :: l, y.length ≤ 300 := fun y hy => by
      obtain ⟨j, hj, rfl⟩ := List.mem_iff_getElem.1 hy
      exact (hg j hj (by omega)).1
    have h1 := flat_len (s := barL) (b := 3) (n := 300) rfl l (fun y hy => h0 y (List.mem_cons_of_mem _ hy))
    have h2 := h0 x (List.mem_cons_self ..)
    have h4 : l.length * (3 + 300) ≤ 2 * (3 + 300) := Nat.mul_le_mul_right _ (by simp at h3; omega)
    rw [join_flat, List.length_append]
    omega
theorem unions_use {l : List Str} {rs : List Rul} (hlen : rs.length = l.length) (hne : 0 < l.length) (h3 : l.length ≤ 3) (hg : GoodR l rs) :
    (preL ++ Lib.join l barL).length ≤ 65536 ∧ parseP (scanL (preL ++ Lib.join l barL)) = (⟨[], 0, [], rs, []⟩, 0, 0) := by
  have hj := join_le hlen h3 hg
  have hle : (preL ++ Lib.join l barL).length ≤ 65536 := by rw [List.length_append]; simp [preL]; omega
  refine ⟨hle, ?_⟩
  match l, rs, hlen, hne, h3, hg, hle with
  | x :: l, r :: rs, hlen, hne, h3, hg, hle =>
    have hlen' : rs.length = l.length := by simpa using hlen
    have e1 : (l.zip rs).map (·.1) = l := List.map_fst_zip (by omega)
    have e2 : (l.zip rs).map (·.2) = rs := List.map_snd_zip (by omega)
    have e3 : (preL ++ ((x, r).1 ++ (l.zip rs).flatMap fun y => barL ++ y.1)) = preL ++ Lib.join (x :: l) barL := by
      rw [join_flat]
      have : ((l.zip rs).flatMap fun y => barL ++ y.1) = ((l.zip rs).map (·.1)).flatMap fun y => barL ++ y := by rw [List.flatMap_map]
      rw [this, e1]
    have h1 := unions_plain (x, r) (l.zip rs) (fun y hy => by
      rcases List.mem_cons.1 hy with rfl | hy
      · exact (hg 0 (by simp) (by simp)).2
      · obtain ⟨j, hj, rfl⟩ := List.mem_iff_getElem.1 hy
        have hjl : j < l.length := by simp at hj; omega
        have hjr : j < rs.length := by omega
        have := (hg (j + 1) (by simp; omega) (by simp; omega)).2
        simpa using this) (by simp at h3 ⊢; omega) (by rw [e3]; exact hle)
    rw [e3, e2] at h1
    exact h1

set_option maxRecDepth 100000 in
set_option maxHeartbeats 4000000 in
theorem law_unions20 (A : Option Addr) (l : List Str) (c : Nat) (w : World) (h : NmsAt w A l) (hc : l.length ≤ c) (hE : EnvL w) : Calls Tryz.prog 7 #[.slice A l.length c] w fun e w' => e = .returned (.bool true) ∧ Below w.heap.size w w' := by
  obtain ⟨i0, hi0, hz0, hz1, hz2⟩ := info_parts infoRlP2
  have HAw := fun W (k : Below w.heap.size w W) => hid (awake20 W (hE.below k))
  by_cases hl0 : l.length = 0
  · have hs1 : ((l.length : Int) == 0) = true := by simp [hl0]
    clear hE h hc hl0
    go_enter Tryz.func7, Tryz.ntmps7
    go_wp2_with fail
    refine (HAw _ (Below.refl _ _)).out.mono ?_
    rintro e w1 ⟨rfl, k1⟩
    clear HAw
    go_wp2
    go_ret
    exact ⟨rfl, k1⟩
  have hs1 : ((l.length : Int) == 0) = false := by simpa using hl0
  by_cases hl3 : 3 < l.length
  · have hs2 : (3 : Int) < (l.length : Int) := by omega
    clear hE h hc hl0 hl3
    go_enter Tryz.func7, Tryz.ntmps7
    go_wp2_with fail
    refine (HAw _ (Below.refl _ _)).out.mono ?_
    rintro e w1 ⟨rfl, k1⟩
    clear HAw
    go_wp2
    go_ret
    exact ⟨rfl, k1⟩
  have hs2 : ¬ (3 : Int) < (l.length : Int) := by omega
  have hlp : 0 < l.length := by omega
  obtain ⟨b, o, rfl, hcs⟩ := h hlp
  have HE := hid hE
  have HC := hid hcs
  have HCap := hid hc
  clear hE hcs hc h hl0
  go_enter Tryz.func7, Tryz.ntmps7
  go_wp2_with fail
  go_loopw [23, 3] (fun i u wr => ∃ (k : Nat) (rs : List Rul) (R : Option Addr) (cr : Nat), k ≤ l.length ∧ i = .int .i64 k ∧ u = .slice R k cr ∧ Hid (rs.length = k) ∧ Hid (OwnRls wr w.heap.size (.slice R k cr) rs) ∧ Hid (GoodR l rs) ∧ Hid (∀ r ∈ rs, r.some) ∧ Below w.heap.size w wr) (fun i _ _ => l.length - (intOf i).toNat)
  case atStart => exact ⟨0, [], none, 0, by omega, rfl, rfl, hid rfl, hid OwnRls.nil, hid (fun j _ hj => absurd hj (by simp)), hid (fun r hr => by cases hr), Below.refl _ _⟩
  case round =>
    obtain ⟨k, rs, R, cr, hk, rfl, rfl, HL, HO, HG, HS, hbel⟩ := hrel
    by_cases hlt : k < l.length
    · have hc0 := (hbel.cell (cell_lt (HC.out k hlt))).trans (HC.out k hlt)
      obtain ⟨X, hX⟩ : ∃ X : ByteArray, ⟨l[k].toArray⟩ = X := ⟨_, rfl⟩
      rw [hX] at hc0
      obtain ⟨⟨r, pa, pe⟩, hy⟩ : ∃ y, parseR (scanL X.data.toList) = y := ⟨_, rfl⟩
      have HR := hid (prs_rule_own X wr (HE.out.below hbel) rfl hy)
      have hXl : l[k].length = X.size := by rw [← hX]; show _ = l[k].toArray.size; simp
      have hXs : X.data.toList = l[k] := by rw [← hX]
      have HXL := hid hXl
      have HXS := hid hXs
      have HY := hid hy
      clear hX hXl hXs hy
      by_cases hx3 : 300 < X.size
      · have hs3 : (300 : Int) < (X.size : Int) := by omega
        go_wp2_with fail
        refine HR.out.mono ?_
        rintro e w1 ⟨T, T', c1, c2, rfl, -, -, -, k1⟩
        simp only
        have x1 := below_one w1 (.cells #[.slice T r.atoms.length c1, .slice T' r.conds.length c2] 42)
        obtain ⟨w2, hw2⟩ : ∃ w2, w1.alloc (.cells #[.slice T r.atoms.length c1, .slice T' r.conds.length c2] 42) = w2 := ⟨_, rfl⟩
        rw [hw2] at x1
        have HW2 := hid hw2
        have K2 := hid (hbel.trans ((k1.trans (x1.mono k1.size)).mono hbel.size))
        have HA := hid (HAw w2 K2.out).out
        clear hw2 x1 k1 HR HAw HO HG HS HL HC HE hbel hc0
        go_wp2_with (first | rw [HW2.out] | fail)
        refine HA.out.mono ?_
        rintro e w3 ⟨rfl, k3⟩
        have K3 := hid (K2.out.trans (k3.mono K2.out.size))
        clear HA k3 K2
        go_wp2
        go_ret
        exact ⟨rfl, K3.out⟩
      have hs3 : ¬ (300 : Int) < (X.size : Int) := by omega
      by_cases he0 : pe ≠ 0
      · have hb0 : (pe != 0) = true := by simpa using he0
        clear he0
        go_wp2_with fail
        refine HR.out.mono ?_
        rintro e w1 ⟨T, T', c1, c2, rfl, -, -, -, k1⟩
        simp only
        have x1 := below_one w1 (.cells #[.slice T r.atoms.length c1, .slice T' r.conds.length c2] 42)
        obtain ⟨w2, hw2⟩ : ∃ w2, w1.alloc (.cells #[.slice T r.atoms.length c1, .slice T' r.conds.length c2] 42) = w2 := ⟨_, rfl⟩
        rw [hw2] at x1
        have HW2 := hid hw2
        have K2 := hid (hbel.trans ((k1.trans (x1.mono k1.size)).mono hbel.size))
        have HA := hid (HAw w2 K2.out).out
        clear hw2 x1 k1 HR HAw HO HG HS HL HC HE hbel hc0
        go_wp2_with (first | rw [HW2.out] | fail)
        refine HA.out.mono ?_
        rintro e w3 ⟨rfl, k3⟩
        have K3 := hid (K2.out.trans (k3.mono K2.out.size))
        clear HA k3 K2
        go_wp2
        go_ret
        exact ⟨rfl, K3.out⟩
      obtain rfl : pe = 0 := by omega
      clear he0
      go_wp2_with fail
      refine HR.out.mono ?_
      rintro e w1 ⟨T, T', c1, c2, rfl, hO1, hsm, -, k1⟩
      simp only at hO1 hsm ⊢
      have x1 := below_one w1 (.cells #[.slice T r.atoms.length c1, .slice T' r.conds.length c2] 42)
      have h1 := heap_alloc_new w1 (.cells #[.slice T r.atoms.length c1, .slice T' r.conds.length c2] 42)
      obtain ⟨w2, hw2⟩ : ∃ w2, w1.alloc (.cells #[.slice T r.atoms.length c1, .slice T' r.conds.length c2] 42) = w2 := ⟨_, rfl⟩
      rw [hw2] at x1 h1
      have kk := k1.trans (x1.mono k1.size)
      have hB2 := hbel.trans (kk.mono hbel.size)
      have hsz := hB2.size
      have HO1 := hid ((hO1.mono hbel.size).below x1)
      obtain ⟨us, vs, u0, u1, u2, u3⟩ := HO.out.below kk
      rw [HL.out] at u2
      have HU := hid (And.intro u0 (And.intro u1 (And.intro u2 u3)))
      have HB2 := hid hB2
      have HW2 := hid hw2
      have HSm := hid hsm
      have c10 := box_cell h1 0
      have c11 := box_cell h1 1
      clear hw2 x1 h1 kk hB2 hO1 k1 HR HO hc0 u0 u1 u2 u3 hsm
      go_wp2_with (first | rw [HW2.out] | (at_builtin; refine wpList_append_new2 Tryz.underlying24 hi0 hz0 hz1 hz2 rfl (by decide) (by decide) rfl rfl rfl HU.out.2.2.1 rfl rfl rfl rfl (by omega) hsz ?_; intro v5 w5 hown5 hg5; obtain ⟨R5, cr5, rfl⟩ := own_shape hown5) | fail)
      have hpush := hid (OwnRls.push (l := rs) HU.out.1 HU.out.2.1 (by rw [HL.out]; exact HU.out.2.2.1) HU.out.2.2.2 HO1.out.1 HO1.out.2 hg5 (by rw [HL.out]) hown5)
      have hB5 := HB2.out.grown hg5 hsz (fun q e => (HU.out.2.2.1.lt q e).1)
      have HG5 := hid (HG.out.push HL.out hlt (by rw [HXL.out]; omega) (by rw [← HXS.out]; exact HY.out))
      clear hown5 hg5 HU HO1 c10 c11 HG HY
      go_wp2
      go_roundw
      case rel => exact ⟨k + 1, rs ++ [r], R5, cr5, by omega, by go_num, rfl, hid (by rw [List.length_append, HL.out]; rfl), hpush, HG5, hid (fun x hx => by
        rcases List.mem_append.1 hx with hx | hx
        · exact HS.out x hx
        · rw [List.mem_singleton] at hx
          rw [hx]
          exact HSm.out), hB5⟩
      case measure => simp [intOf]; omega
    · obtain rfl : k = l.length := by omega
      have hlen : rs.length = l.length := HL.out
      obtain ⟨hTl, hTp⟩ := unions_use hlen hlp (by omega) HG.out
      have hjl := join_le hlen (by omega) HG.out
      obtain ⟨R', cr', e3, hRs, hRc⟩ := ren_ruls HO.out HS.out
      injection e3 with e3 e4 e5
      subst e3 e5
      obtain ⟨J, hJ⟩ : ∃ J : ByteArray, ⟨(Lib.join l barL).toArray⟩ = J := ⟨_, rfl⟩
      have hJt : J.data.toList = Lib.join l barL := by rw [← hJ]
      have hJs : J.size ≤ 1000 := by rw [← hJ]; show (Lib.join l barL).toArray.size ≤ 1000; simpa using hjl
      have HJ := hid (show Calls Tryz.prog 20 #[.slice (some ⟨b, o, none⟩) l.length c, .string ⟨#[32, 124, 32]⟩] wr fun e w' => e = .returned (.string J) ∧ Below wr.heap.size wr w' from by
        have hm : (l.map fun s => (⟨s.toArray⟩ : ByteArray)).map (·.data.toList) = l := by
          rw [List.map_map]
          have : ((fun x : ByteArray => x.data.toList) ∘ fun s : Str => (⟨s.toArray⟩ : ByteArray)) = id := by funext s; simp
          rw [this, List.map_id]
        have h1 := Tryz.strings_Join b o c (l.map fun s => (⟨s.toArray⟩ : ByteArray)) ⟨#[32, 124, 32]⟩ wr (fun j x hx => by
          obtain ⟨hj, e⟩ := List.getElem?_eq_some_iff.1 hx
          have hj' : j < l.length := by simpa using hj
          rw [← e, List.getElem_map]
          exact (hbel.cell (cell_lt (HC.out j hj'))).trans (HC.out j hj')) (by have := cell_lt (HC.out 0 hlp); have := hbel.size; simp at *; omega) (by simp; omega) (by simpa using HCap.out) (by rw [hm]; show (Lib.join l barL).length ≤ _; omega)
        rw [hm, List.length_map] at h1
        rw [← hJ]
        exact h1)
      obtain ⟨Q, hQ⟩ : ∃ Q : ByteArray, (⟨#[97, 110, 115, 40, 41, 32, 58, 45, 32]⟩ : ByteArray) ++ J = Q := ⟨_, rfl⟩
      have hQt : Q.data.toList = preL ++ Lib.join l barL := by rw [← hQ, ← hJt]; simp [ByteArray.data_append, preL]
      have hQs : Q.size ≤ 65536 := by
        have e : Q.data.toList.length = Q.size := by simp
        rw [← e, hQt]; exact hTl
      rw [← hQt] at hTp
      have HP := fun W (k : Below w.heap.size w W) => hid (prs_parse Q W (HE.out.below k) hQs rfl hTp)
      have HQ := hid hQ
      have HB := hid hbel
      have HQin := hid (show QryIn wr ⟨[], 0, [], rs, []⟩ none R none 0 cr 0 from ⟨fun h => absurd h (by simp), hRs, fun h => absurd h (by simp), by simp, hRc, by simp, by simp, by show rs.length ≤ _; omega, by simp⟩)
      clear hJt hQ hQt hTl hTp hjl hJ hRs hRc e4 hlen hbel HO HS HG HC
      go_wp2_with fail
      refine HJ.out.mono ?_
      rintro e w1 ⟨rfl, k1⟩
      have K1 := hid (HB.out.trans (k1.mono HB.out.size))
      have I1 := hid (HQin.out.below k1)
      have HP1 := hid (HP w1 K1.out).out
      clear HJ k1 HB HQin HP
      go_wp2_with (first | rw [HQ.out] | fail)
      refine HP1.out.mono ?_
      rintro e w2 ⟨A2, R2, O2, a2, b2, d2, rfl, i2, f2, k2⟩
      simp only [qryV, HL.out, List.length_nil]
      have x3 := below_one w2 (.cells #[.slice A2 0 a2, .int .i64 0, .string ⟨([] : List UInt8).toArray⟩, .slice R2 l.length b2, .slice O2 0 d2] 27)
      have h3 := heap_alloc_new w2 (.cells #[.slice A2 0 a2, .int .i64 0, .string ⟨([] : List UInt8).toArray⟩, .slice R2 l.length b2, .slice O2 0 d2] 27)
      obtain ⟨w3, hw3⟩ : ∃ w3, w2.alloc (.cells #[.slice A2 0 a2, .int .i64 0, .string ⟨([] : List UInt8).toArray⟩, .slice R2 l.length b2, .slice O2 0 d2] 27) = w3 := ⟨_, rfl⟩
      have l3 : w2.heap.size < w3.heap.size := by rw [← hw3]; simp
      rw [hw3] at x3 h3
      have kk := k2.trans (x3.mono k2.size)
      have K3 := hid (K1.out.trans (kk.mono K1.out.size))
      have I3 := hid (I1.out.below kk)
      have J3 := hid (i2.below x3)
      have G3 := hid h3
      have HW3 := hid hw3
      have HA := hid (HAw w3 K3.out).out
      clear HP1 I1 i2 f2 k2 x3 h3 hw3 kk HAw K1
      go_wp2_with (first | rw [HW3.out] | fail)
      refine HA.out.mono ?_
      rintro e w4 ⟨rfl, k4⟩
      have K4 := hid (K3.out.trans (k4.mono K3.out.size))
      have HEq := hid (ast_equal ⟨[], 0, [], rs, []⟩ ⟨[], 0, [], rs, []⟩ A2 R2 O2 none R none a2 b2 d2 0 cr 0 w4 (J3.out.below k4) (I3.out.below k4) (b := true) ⟨fun _ => rfl, fun _ => rfl⟩)
      have g1 := (k4.block w2.heap.size l3).trans G3.out
      simp only [qryV, HL.out, List.length_nil] at HEq
      have c40 := box_cell g1 0
      have c41 := box_cell g1 1
      have c42 := box_cell g1 2
      have c43 := box_cell g1 3
      have c44 := box_cell g1 4
      clear HA k4 g1 G3 I3 J3 K3 HW3
      go_wp2_with fail
      refine HEq.out.mono ?_
      rintro e w5 ⟨rfl, k5⟩
      have K5 := hid (K4.out.trans (k5.mono K4.out.size))
      clear HEq k5 K4
      go_wp2
      go_ret
      exact ⟨rfl, K5.out⟩
end

/-! ### OpenN -/
section
open Go.ChangeShapes Go.WideShapes Go.ChangeAt Go.RowKit Go.Deep

theorem open_nms {H : Type} {enc : TypeId × Value → H} {w : World} {base : Nat} {sp : Nat → Bool} {held : Bool} {t : TypeId} (ht : Tryz.prog.underlying t = some (.slice 9)) {fuel : Nat} {v : Value} {x : DataW H × List MemPlace} (hs : ∃ a len cap, v = .slice a len cap)
    (h : DataW.trod enc Tryz.prog w base sp held fuel t v.cells.toList = some x) : ∃ A l c, v = .slice A (l : List Str).length c ∧ NmsAt w A l ∧ l.length ≤ c ∧ l.length ≤ 9223372036854775807 ∧ ∀ y ∈ l, y.length ≤ 9223372036854775807 := by
  obtain ⟨a, len, cap, rfl⟩ := hs
  obtain ⟨A, l, c, h1, h2⟩ := trod_nms ht h
  have h3 : [Value.slice a len cap] = _ := h1
  injection h3 with h4 _
  exact ⟨A, l, c, h4, h2⟩
end
end Go.Proofs.YtnbacdmlaedppaaGreatDoor
