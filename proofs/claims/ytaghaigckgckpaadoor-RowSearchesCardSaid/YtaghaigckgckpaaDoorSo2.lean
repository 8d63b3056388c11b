/-
  WALKS: slices.rotateCmpFunc at rows.
-/
import Derived.Test.YtaghaigckgckpaaDoorSo1
namespace Go.Proofs.YtaghaigckgckpaaDoor
open Go.RowKit

set_option maxRecDepth 100000 in
set_option maxHeartbeats 2000000 in
theorem rotate_rows (w0 : World) (B g n c a m b : Nat) (l : List El) (F : Value) (w : World) (h : SoW w0 B g n c l w) (hn : n ≤ 100000) (ham : a < m) (hmb : m < b) (hb : b ≤ n) :
    Calls Tryd.prog 52 #[.slice (some ⟨g, 0, none⟩) n c, .int .i64 a, .int .i64 m, .int .i64 b, F] w fun e w' => e = .returned (.tuple #[]) ∧ ∃ l', SoW w0 B g n c l' w' ∧ Pm El.dum a b l l' ∧ ∀ t, nth El.dum l' t = rotF (nth El.dum l) m (m - a) (b - m) t := by
  have H := hid h
  have HSw := fun (l1 : List El) (a1 b1 k1 : Nat) (W : World) (hw : SoW w0 B g n c l1 W) (h1 : a1 + k1 ≤ b1) (h2 : b1 + k1 ≤ n) => hid (swap_range w0 B g n c a1 b1 k1 l1 F W hw hn h1 h2)
  clear h
  go_enter Tryd.func52, Tryd.ntmps52
  go_wp2
  go_loopw [10, 11] (fun vi vj wr => ∃ (i j : Nat) (lj : List El), vi = .int .i64 i ∧ vj = .int .i64 j ∧ 0 < i ∧ 0 < j ∧ a + i ≤ m ∧ m + j ≤ b ∧ Hid (SoW w0 B g n c lj wr) ∧ Hid (Pm El.dum a b l lj) ∧ Hid (∀ t, rotF (nth El.dum lj) m i j t = rotF (nth El.dum l) m (m - a) (b - m) t)) (fun i j _ => (intOf i).toNat + (intOf j).toNat)
  case atStart => exact ⟨m - a, b - m, l, by go_num, by go_num, by omega, by omega, by omega, by omega, H, hid (Pm.refl _ _ _ _), hid (fun _ => rfl)⟩
  case round =>
    obtain ⟨i, j, lj, rfl, rfl, hi0, hj0, hi, hj, HS, HP, HT⟩ := hrel
    clear H
    by_cases hij : i = j
    · subst hij
      have hc := (HSw lj (m - i) m i _ HS.out (by omega) (by omega)).out
      rw [show ((m - i : Nat) : Int) = (m : Int) - (i : Int) by omega] at hc
      have HC := hid hc
      have HE : Hid (∀ l', (Pm El.dum (m - i) (m + i) lj l' ∧ ∀ t, nth El.dum l' t = swrF (nth El.dum lj) (m - i) m i t) → Pm El.dum a b l l' ∧ ∀ t, nth El.dum l' t = rotF (nth El.dum l) m (m - a) (b - m) t) := hid (fun l' h => ⟨HP.out.trans (h.1.mono (by omega) (by omega)), fun t => by rw [h.2, rot_end (by omega), HT.out]⟩)
      clear hc HSw HS HP HT
      go_wp2_with fail
      refine HC.out.mono ?_
      rintro e w1 ⟨rfl, l', hs, hp, ht⟩
      have hE := HE.out l' ⟨hp, ht⟩
      have HS' := hid hs
      clear hs hp ht HE HC
      go_wp2
      go_end0
      exact ⟨rfl, l', HS'.out, hE.1, hE.2⟩
    · by_cases hlt : j < i
      · have hc := (HSw lj (m - i) m j _ HS.out (by omega) (by omega)).out
        rw [show ((m - i : Nat) : Int) = (m : Int) - (i : Int) by omega] at hc
        have HC := hid hc
        have HE : Hid (∀ l', (Pm El.dum (m - i) (m + j) lj l' ∧ ∀ t, nth El.dum l' t = swrF (nth El.dum lj) (m - i) m j t) → Pm El.dum a b l l' ∧ ∀ t, rotF (nth El.dum l') m (i - j) j t = rotF (nth El.dum l) m (m - a) (b - m) t) := hid (fun l' h => ⟨HP.out.trans (h.1.mono (by omega) (by omega)), fun t => by
          rw [show nth El.dum l' = swrF (nth El.dum lj) (m - i) m j from funext h.2, rot_left (by omega) hlt hj0, HT.out]⟩)
        clear hc HSw HS HP HT
        go_wp2_with fail
        refine HC.out.mono ?_
        rintro e w1 ⟨rfl, l', hs, hp, ht⟩
        have hE := HE.out l' ⟨hp, ht⟩
        have HS' := hid hs
        have HE1 := hid hE.1
        have HE2 := hid hE.2
        clear hs hp ht HE HC hE
        go_wp2
        go_roundw
        case rel => exact ⟨i - j, j, l', by go_num, rfl, by omega, hj0, by omega, hj, HS', HE1, HE2⟩
        case measure => simp [intOf]; omega
      · have hc := (HSw lj (m - i) (m + j - i) i _ HS.out (by omega) (by omega)).out
        rw [show ((m - i : Nat) : Int) = (m : Int) - (i : Int) by omega, show ((m + j - i : Nat) : Int) = (m : Int) + (j : Int) - (i : Int) by omega] at hc
        have HC := hid hc
        have HE : Hid (∀ l', (Pm El.dum (m - i) (m + j - i + i) lj l' ∧ ∀ t, nth El.dum l' t = swrF (nth El.dum lj) (m - i) (m + j - i) i t) → Pm El.dum a b l l' ∧ ∀ t, rotF (nth El.dum l') m i (j - i) t = rotF (nth El.dum l) m (m - a) (b - m) t) := hid (fun l' h => ⟨HP.out.trans (h.1.mono (by omega) (by omega)), fun t => by
          rw [show nth El.dum l' = swrF (nth El.dum lj) (m - i) (m + j - i) i from funext h.2, rot_right (by omega) (by omega) hi0, HT.out]⟩)
        clear hc HSw HS HP HT
        go_wp2_with fail
        refine HC.out.mono ?_
        rintro e w1 ⟨rfl, l', hs, hp, ht⟩
        have hE := HE.out l' ⟨hp, ht⟩
        have HS' := hid hs
        have HE1 := hid hE.1
        have HE2 := hid hE.2
        clear hs hp ht HE HC hE
        go_wp2
        go_roundw
        case rel => exact ⟨i, j - i, l', rfl, by go_num, hi0, by omega, hi, by omega, HS', HE1, HE2⟩
        case measure => simp [intOf]; omega
end Go.Proofs.YtaghaigckgckpaaDoor
