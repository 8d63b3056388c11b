/-
  WALK: the document's name of layer 19.
-/
import Derived.Test.YtgeapgbebbapmaaDoorRfs
import Derived.Test.YtgeapgbebbapmaaDoorRen2
namespace Go.Proofs.YtgeapgbebbapmaaDoor
open Go.RowKit

theorem zip_idx : ∀ (fr tos : List Str) (_ : fr.length = tos.length) (v : Str), (idxL fr v < 0 → zipF fr tos v = none) ∧ ∀ k : Nat, idxL fr v = k → ∃ h : k < tos.length, zipF fr tos v = some tos[k]
  | [], _, _, v => by
    refine ⟨fun _ => by simp [zipF], fun k h => ?_⟩
    unfold idxL at h
    omega
  | a :: fr, [], h, _ => by simp at h
  | a :: fr, b :: tos, h, v => by
    have ih := zip_idx fr tos (by simpa using h) v
    unfold idxL
    by_cases e : a = v
    · rw [if_pos e]
      refine ⟨fun h => absurd h (by omega), fun k hk => ?_⟩
      obtain rfl : k = 0 := by omega
      exact ⟨by simp, by simp [zipF, e]⟩
    · have ez : zipF (a :: fr) (b :: tos) v = zipF fr tos v := by
        have : (a == v) = false := by simpa using e
        simp [zipF, this]
      rw [if_neg e, ez]
      by_cases h0 : idxL fr v < 0
      · rw [if_pos h0]
        exact ⟨fun _ => ih.1 h0, fun k hk => by omega⟩
      · rw [if_neg h0]
        refine ⟨fun h => by omega, fun k hk => ?_⟩
        obtain ⟨j, rfl⟩ : ∃ j, k = j + 1 := ⟨k - 1, by omega⟩
        obtain ⟨h1, h2⟩ := ih.2 j (by omega)
        exact ⟨by simpa using h1, by simpa using h2⟩

set_option maxRecDepth 100000 in
set_option maxHeartbeats 2000000 in
theorem ref_rname (fr tos : List Str) (Fa Ta : Option Addr) (fc tc : Nat) (X : ByteArray) (w : World) (hf : NmsAt w Fa fr) (ht : NmsAt w Ta tos) (hl : fr.length = tos.length) (hm : fr.length ≤ 9223372036854775807) {Y : ByteArray} (hY : (⟨(renF (zipF fr tos) X.data.toList).toArray⟩ : ByteArray) = Y) :
    Calls Tryd.prog 46 #[.string X, .slice Fa fr.length fc, .slice Ta tos.length tc] w fun e w' => e = .returned (.string Y) ∧ w = w' := by
  obtain ⟨x, ex⟩ : ∃ x, idxL fr X.data.toList = x := ⟨_, rfl⟩
  have CI := hid (ref_index Fa fc fr X w hf hm ex)
  obtain ⟨hz1, hz2⟩ := zip_idx fr tos hl X.data.toList
  have hlt := (idxL_in fr X.data.toList).2.2
  rw [ex] at hz1 hz2 hlt
  have HT := hid ht
  by_cases h0 : x < 0
  · have e1 := hz1 h0
    have hYY : X = Y := by
      rw [← hY]
      unfold renF
      rw [e1]
      by_cases h : X.data.toList = []
      · rw [if_pos h]
      · rw [if_neg h]; rfl
    have h1 : decide (0 ≤ x) = false := by simp; omega
    have HYY := hid hYY
    clear hY hz1 hz2 e1 hYY ex hf ht hl
    go_enter Tryd.func46, Tryd.ntmps46
    go_wp2_with fail
    refine CI.out.mono ?_
    rintro e w1 ⟨rfl, rfl⟩
    go_wp2
    go_ret
    exact ⟨by rw [HYY.out]; first | done | rfl, rfl⟩
  · obtain ⟨k, rfl⟩ : ∃ k : Nat, x = k := ⟨x.toNat, by omega⟩
    obtain ⟨hk, e1⟩ := hz2 k rfl
    obtain ⟨b, o, rfl, hc⟩ := ht (by omega)
    have c0 := hc k hk
    obtain ⟨Z, hZ, hZd⟩ : ∃ Y : ByteArray, (⟨tos[k].toArray⟩ : ByteArray) = Y ∧ Y.data.toList = tos[k] := ⟨_, rfl, rfl⟩
    rw [hZ] at c0
    by_cases h : X.data.toList = []
    · have hb : X.toList.isEmpty = true := by rw [Lib.toList_data X, h]; rfl
      have hYY : X = Y := by
        rw [← hY]
        unfold renF
        rw [if_pos h]
      have HYY := hid hYY
      clear hY hz1 hz2 e1 hYY ex hf ht hl hZ hZd hc h
      go_enter Tryd.func46, Tryd.ntmps46
      go_wp2_with fail
      refine CI.out.mono ?_
      rintro e w1 ⟨rfl, rfl⟩
      go_wp2
      go_ret
      exact ⟨by rw [HYY.out]; first | done | rfl, rfl⟩
    · have hb : X.toList.isEmpty = false := by rw [Lib.toList_data X]; simpa using h
      have hYY : Z = Y := by
        rw [← hY, ← hZ]
        unfold renF
        rw [if_neg h, e1]
        rfl
      have HYY := hid hYY
      clear hY hz1 hz2 e1 hYY ex hf ht hl hZ hZd hc h
      go_enter Tryd.func46, Tryd.ntmps46
      go_wp2_with fail
      refine CI.out.mono ?_
      rintro e w1 ⟨rfl, rfl⟩
      go_wp2
      go_ret
      exact ⟨by rw [HYY.out]; first | done | rfl, rfl⟩
end Go.Proofs.YtgeapgbebbapmaaDoor
