/-
  WALKS: value.unhex, value.unquote.
-/
import Derived.Test.YtkoajdbijlpgaaaDoorLit2
import Derived.Test.YtkoajdbijlpgaaaDoorVal
namespace Go.Proofs.YtkoajdbijlpgaaaDoor
open Go.RowKit

abbrev hexDigits : ByteArray := ⟨#[48, 49, 50, 51, 52, 53, 54, 55, 56, 57, 97, 98, 99, 100, 101, 102]⟩
def ixI (c : UInt8) : Int := match hexIx c with
  | some n => n
  | none => -1
theorem ixI_eq (c : UInt8) : Lib.indexByte hexDigits.data.toList c = ixI c := by
  have h : ∀ i : Fin 256, Lib.indexByte hexDigits.data.toList (UInt8.ofNat i.val) = ixI (UInt8.ofNat i.val) := by decide +kernel
  have := h ⟨c.toNat, c.toNat_lt⟩
  simpa using this

theorem hex_ix (c : UInt8) (w : World) {x : Int} (hx : ixI c = x) :
    Calls Tryd.prog 97 #[.string hexDigits, .int .u8 c.toNat] w fun e w' => e = .returned (.int .i64 x) ∧ Below w.heap.size w w' := by
  refine (Tryd.strings_IndexByte hexDigits c.toNat w).mono fun e w' ⟨h, h'⟩ => ?_
  subst h'
  refine ⟨?_, Below.refl _ _⟩
  rw [h, ← hx, ← ixI_eq]
  simp

theorem or_hex (a b : Nat) (ha : a < 16) (hb : b < 16) : bits .or .i64 ((a : Int) * 16) (b : Int) = (a * 16 + b : Nat) := by
  have h : ∀ a b : Fin 16, bits .or .i64 ((a.val : Int) * 16) (b.val : Int) = (a.val * 16 + b.val : Nat) := by decide +kernel
  exact h ⟨a, ha⟩ ⟨b, hb⟩

theorem getD_of {s : ByteArray} {k : Nat} (h : k < s.size) : s.data.toList.getD k 0 = s[k] := by
  rw [List.getD_eq_getElem?_getD, List.getElem?_eq_getElem (by simpa using h)]; rfl

set_option maxRecDepth 100000 in
set_option maxHeartbeats 1000000 in
theorem unhex (s : ByteArray) (w : World) {b : UInt8} {n : Nat} (hx : unhexL s.data.toList = (b, n)) :
    Calls Tryd.prog 107 #[.string s] w fun e w' => e = .returned (.tuple #[.int .u8 b.toNat, .int .i64 n]) ∧ Below w.heap.size w w' := by
  unfold unhexL at hx
  by_cases h4 : s.size < 4
  · rw [if_pos (by simpa using h4)] at hx
    injection hx with e1 e2
    subst e1 e2
    go_enter Tryd.func107, Tryd.ntmps107
    go_wp2
    go_ret2
    exact ⟨rfl, Below.refl _ _⟩
  · rw [if_neg (by simpa using h4), getD_of (show 2 < s.size by omega), getD_of (show 3 < s.size by omega)] at hx
    have H1 := fun x W (he : ixI s[2] = x) => hid (hex_ix s[2] W he)
    have H2 := fun x W (he : ixI s[3] = x) => hid (hex_ix s[3] W he)
    cases ha : hexIx s[2] with
    | none =>
      rw [ha] at hx
      injection hx with e1 e2
      subst e1 e2
      have HA := hid (show ixI s[2] = -1 by unfold ixI; rw [ha])
      go_enter Tryd.func107, Tryd.ntmps107
      go_wp2_with fail
      refine (H1 _ _ HA.out).out.mono ?_
      rintro e w1 ⟨rfl, k1⟩
      go_wp2_with fail
      refine (H2 _ _ rfl).out.mono ?_
      rintro e w2 ⟨rfl, k2⟩
      have k2' := k1.trans (k2.mono k1.size)
      clear k1 k2 H1 H2
      generalize ixI s[3] = y
      go_wp2
      all_goals
        go_ret2
        exact ⟨rfl, k2'⟩
    | some a =>
      rw [ha] at hx
      have HA := hid (show ixI s[2] = a by unfold ixI; rw [ha])
      have ha' := (hexIx_hexd _ _ ha).2
      cases hb : hexIx s[3] with
      | none =>
        rw [hb] at hx
        injection hx with e1 e2
        subst e1 e2
        have HB := hid (show ixI s[3] = -1 by unfold ixI; rw [hb])
        go_enter Tryd.func107, Tryd.ntmps107
        go_wp2_with fail
        refine (H1 _ _ HA.out).out.mono ?_
        rintro e w1 ⟨rfl, k1⟩
        go_wp2_with fail
        refine (H2 _ _ HB.out).out.mono ?_
        rintro e w2 ⟨rfl, k2⟩
        have k2' := k1.trans (k2.mono k1.size)
        clear k1 k2 H1 H2
        go_wp2
        all_goals
          go_ret2
          exact ⟨rfl, k2'⟩
      | some c =>
        rw [hb] at hx
        have HB := hid (show ixI s[3] = c by unfold ixI; rw [hb])
        have hc' := (hexIx_hexd _ _ hb).2
        have HO := or_hex a c ha' hc'
        have F1 := hid (show short (a * 16 + c) → b = 0 ∧ n = 0 from fun h => by simp only [if_pos h] at hx; injection hx with e1 e2; exact ⟨e1.symm, e2.symm⟩)
        have F2 := hid (show ¬ short (a * 16 + c) → (b.toNat : Int) = (a : Int) * 16 + c ∧ n = 4 from fun h => by
          simp only [if_neg h] at hx
          injection hx with e1 e2
          refine ⟨?_, e2.symm⟩
          rw [← e1]; simp; omega)
        clear hx ha hb
        have hq : ((a : Int) * 16 + c = 10) ∨ ((a : Int) * 16 + c = 9) ∨ (32 ≤ (a : Int) * 16 + c ∧ (a : Int) * 16 + c ≤ 126) ∨ ((a : Int) * 16 + c < 32 ∧ (a : Int) * 16 + c ≠ 10 ∧ (a : Int) * 16 + c ≠ 9) ∨ 126 < (a : Int) * 16 + c := by omega
        rcases hq with hq | hq | hq | hq | hq
        · obtain ⟨rfl, rfl⟩ := F1.out (by unfold short; omega)
          clear F1 F2
          go_enter Tryd.func107, Tryd.ntmps107
          go_wp2_with fail
          refine (H1 _ _ HA.out).out.mono ?_
          rintro e w1 ⟨rfl, k1⟩
          go_wp2_with fail
          refine (H2 _ _ HB.out).out.mono ?_
          rintro e w2 ⟨rfl, k2⟩
          have k2' := k1.trans (k2.mono k1.size)
          clear k1 k2 H1 H2
          go_wp2
          go_ret2
          exact ⟨rfl, k2'⟩
        · obtain ⟨rfl, rfl⟩ := F1.out (by unfold short; omega)
          clear F1 F2
          go_enter Tryd.func107, Tryd.ntmps107
          go_wp2_with fail
          refine (H1 _ _ HA.out).out.mono ?_
          rintro e w1 ⟨rfl, k1⟩
          go_wp2_with fail
          refine (H2 _ _ HB.out).out.mono ?_
          rintro e w2 ⟨rfl, k2⟩
          have k2' := k1.trans (k2.mono k1.size)
          clear k1 k2 H1 H2
          go_wp2
          go_ret2
          exact ⟨rfl, k2'⟩
        · obtain ⟨rfl, rfl⟩ := F1.out (by unfold short; omega)
          clear F1 F2
          have b10 : ((a : Int) * 16 + c == 10) = false := by simp; omega
          have b9 : ((a : Int) * 16 + c == 9) = false := by simp; omega
          go_enter Tryd.func107, Tryd.ntmps107
          go_wp2_with fail
          refine (H1 _ _ HA.out).out.mono ?_
          rintro e w1 ⟨rfl, k1⟩
          go_wp2_with fail
          refine (H2 _ _ HB.out).out.mono ?_
          rintro e w2 ⟨rfl, k2⟩
          have k2' := k1.trans (k2.mono k1.size)
          clear k1 k2 H1 H2
          go_wp2
          go_ret2
          exact ⟨rfl, k2'⟩
        · obtain ⟨e1, rfl⟩ := F2.out (by unfold short; omega)
          clear F1 F2
          have E1 := hid e1
          clear e1
          have b10 : ((a : Int) * 16 + c == 10) = false := by simp; omega
          have b9 : ((a : Int) * 16 + c == 9) = false := by simp; omega
          go_enter Tryd.func107, Tryd.ntmps107
          go_wp2_with fail
          refine (H1 _ _ HA.out).out.mono ?_
          rintro e w1 ⟨rfl, k1⟩
          go_wp2_with fail
          refine (H2 _ _ HB.out).out.mono ?_
          rintro e w2 ⟨rfl, k2⟩
          have k2' := k1.trans (k2.mono k1.size)
          clear k1 k2 H1 H2
          go_wp2
          go_ret2
          rw [E1.out]
          exact ⟨rfl, k2'⟩
        · obtain ⟨e1, rfl⟩ := F2.out (by unfold short; omega)
          clear F1 F2
          have E1 := hid e1
          clear e1
          have b10 : ((a : Int) * 16 + c == 10) = false := by simp; omega
          have b9 : ((a : Int) * 16 + c == 9) = false := by simp; omega
          go_enter Tryd.func107, Tryd.ntmps107
          go_wp2_with fail
          refine (H1 _ _ HA.out).out.mono ?_
          rintro e w1 ⟨rfl, k1⟩
          go_wp2_with fail
          refine (H2 _ _ HB.out).out.mono ?_
          rintro e w2 ⟨rfl, k2⟩
          have k2' := k1.trans (k2.mono k1.size)
          clear k1 k2 H1 H2
          go_wp2
          go_ret2
          rw [E1.out]
          exact ⟨rfl, k2'⟩

set_option maxRecDepth 100000 in
set_option maxHeartbeats 1000000 in
theorem unquote (s : ByteArray) (w : World) {b : UInt8} {n : Nat} (h0 : 0 < s.size) (hx : unquoteL s.data.toList = (b, n)) :
    Calls Tryd.prog 92 #[.string s] w fun e w' => e = .returned (.tuple #[.int .u8 b.toNat, .int .i64 n]) ∧ Below w.heap.size w w' := by
  have HU := hid (fun (h : unhexL s.data.toList = (b, n)) W => unhex s W h)
  unfold unquoteL at hx
  rw [getD_of h0] at hx
  by_cases h92 : s[0].toNat = 92
  · rw [if_neg (by simpa using h92)] at hx
    by_cases h2 : s.size < 2
    · rw [if_pos (by simpa using h2)] at hx
      injection hx with e1 e2
      subst e1 e2
      clear HU
      go_enter Tryd.func92, Tryd.ntmps92
      go_wp2
      all_goals
        go_ret2
        exact ⟨rfl, Below.refl _ _⟩
    · rw [if_neg (by simpa using h2), getD_of (show 1 < s.size by omega)] at hx
      have hb := s[1].toNat_lt
      by_cases c1 : s[1].toNat = 34 ∨ s[1].toNat = 92
      · rw [if_pos c1] at hx
        injection hx with e1 e2
        subst e2
        have E1 := hid (show (b.toNat : Int) = s[1].toNat by rw [← e1])
        clear HU e1
        rcases c1 with c1 | c1
        all_goals
          go_enter Tryd.func92, Tryd.ntmps92
          go_wp2
          go_ret2
          rw [E1.out, c1]
          exact ⟨rfl, Below.refl _ _⟩
      · rw [if_neg c1] at hx
        have b1 : ((s[1].toNat : Int) == 34) = false := by simp; omega
        have b2 : ((s[1].toNat : Int) == 92) = false := by simp; omega
        by_cases c2 : s[1].toNat = 110
        · rw [if_pos c2] at hx
          injection hx with e1 e2
          subst e1 e2
          clear HU
          go_enter Tryd.func92, Tryd.ntmps92
          go_wp2
          go_ret2
          exact ⟨rfl, Below.refl _ _⟩
        · rw [if_neg c2] at hx
          have b3 : ((s[1].toNat : Int) == 110) = false := by simp; omega
          by_cases c3 : s[1].toNat = 116
          · rw [if_pos c3] at hx
            injection hx with e1 e2
            subst e1 e2
            clear HU
            go_enter Tryd.func92, Tryd.ntmps92
            go_wp2
            go_ret2
            exact ⟨rfl, Below.refl _ _⟩
          · rw [if_neg c3] at hx
            have b4 : ((s[1].toNat : Int) == 116) = false := by simp; omega
            by_cases c4 : s[1].toNat = 120
            · rw [if_pos c4] at hx
              have HU2 := fun W => hid (HU.out hx W)
              clear HU hx
              go_enter Tryd.func92, Tryd.ntmps92
              go_wp2_with fail
              refine (HU2 _).out.mono ?_
              rintro e w1 ⟨rfl, k1⟩
              go_wp2
              go_ret2
              exact ⟨rfl, k1⟩
            · rw [if_neg c4] at hx
              have b5 : ((s[1].toNat : Int) == 120) = false := by simp; omega
              injection hx with e1 e2
              subst e1 e2
              clear HU
              go_enter Tryd.func92, Tryd.ntmps92
              go_wp2
              go_ret2
              exact ⟨rfl, Below.refl _ _⟩
  · rw [if_pos (by simpa using h92)] at hx
    have b0 : ((s[0].toNat : Int) == 92) = false := by simp; omega
    clear HU
    by_cases c1 : s[0].toNat < 32 ∨ 126 < s[0].toNat
    · rw [if_pos c1] at hx
      injection hx with e1 e2
      subst e1 e2
      rcases c1 with c1 | c1
      all_goals
        go_enter Tryd.func92, Tryd.ntmps92
        go_wp2
        go_ret2
        exact ⟨rfl, Below.refl _ _⟩
    · rw [if_neg c1] at hx
      injection hx with e1 e2
      subst e2
      have E1 := hid (show (b.toNat : Int) = s[0].toNat by rw [← e1])
      clear e1
      go_enter Tryd.func92, Tryd.ntmps92
      go_wp2
      go_ret2
      rw [E1.out]
      exact ⟨rfl, Below.refl _ _⟩
end Go.Proofs.YtkoajdbijlpgaaaDoor
