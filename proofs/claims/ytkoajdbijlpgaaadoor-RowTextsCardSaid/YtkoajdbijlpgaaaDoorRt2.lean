/-
  WALKS: the document's width, integer, Parse (layer 1).
-/
import Derived.Test.YtkoajdbijlpgaaaDoorRt1
import Derived.Test.YtkoajdbijlpgaaaDoorRtP
namespace Go.Proofs.YtkoajdbijlpgaaaDoor
open Go.RowKit

theorem take_extract (s : ByteArray) (n : Nat) : (s.extract 0 n).data.toList = s.data.toList.take n := by
  simp [ByteArray.data_extract, Array.toList_extract, List.extract]

theorem pre_yes {s : ByteArray} {p : List UInt8} (h : p <+: s.data.toList) : p.length ≤ s.size ∧ ((s.extract 0 p.length).toList == p) = true := by
  obtain ⟨t, ht⟩ := h
  have hl : s.data.toList.length = s.size := by simp
  refine ⟨by rw [← hl, ← ht]; simp, ?_⟩
  rw [Lib.toList_data, take_extract, ← ht]; simp
theorem pre_no {s : ByteArray} {p : List UInt8} (h : ¬ p <+: s.data.toList) (_hl : p.length ≤ s.size) : ((s.extract 0 p.length).toList == p) = false := by
  rw [Lib.toList_data, take_extract]
  simp only [beq_eq_false_iff_ne, ne_eq]
  intro e
  exact h ⟨s.data.toList.drop p.length, by conv => { lhs; lhs; rw [← e] }; exact List.take_append_drop _ _⟩

theorem pre_short {s : ByteArray} {p : List UInt8} (hl : ¬ p.length ≤ s.size) : ¬ p <+: s.data.toList := by
  rintro ⟨t, ht⟩
  have h1 : s.data.toList.length = s.size := by simp
  rw [← ht, List.length_append] at h1
  omega

theorem of_nat_toNat (k : Nat) (h : k < 256) : ((UInt8.ofNat k).toNat : Int) = k := by simp; omega

set_option maxRecDepth 100000 in
set_option maxHeartbeats 1000000 in
theorem ref_width (s : ByteArray) (w : World) (_hs : s.size ≤ 100000) {b : UInt8} {n : Nat} (hx : unq s.data.toList = (b, n)) :
    Calls Tryd.prog 78 #[.string s] w fun e w' => e = .returned (.tuple #[.int .i64 n, .int .u8 b.toNat]) ∧ Below w.heap.size w w' := by
  have HX := hid hx
  clear hx
  go_enter Tryd.func78, Tryd.ntmps78
  go_wp2
  go_loopw [4] (fun i wr => ∃ (k : Nat), k ≤ 256 ∧ i = .int .i64 k ∧ Hid (∀ j < k, ¬ spell (UInt8.ofNat j) <+: s.data.toList) ∧ Below w.heap.size w wr) (fun i _ => 256 - (intOf i).toNat)
  case atStart => exact ⟨0, by omega, rfl, hid (fun j hj => by omega), Below.refl _ _⟩
  case round =>
    obtain ⟨k, hk, rfl, HP, hbel⟩ := hrel
    by_cases hlt : k < 256
    · have H1 := fun W => hid (ref_char (UInt8.ofNat k) W rfl)
      rw [of_nat_toNat k hlt] at H1
      have ls := spell_length (UInt8.ofNat k)
      by_cases hp : spell (UInt8.ofNat k) <+: s.data.toList
      · have hf := width_found hp
        rw [HX.out] at hf
        injection hf with e1 e2
        obtain ⟨g1, g2⟩ := pre_yes hp
        have E2 : Hid (n = (spell (UInt8.ofNat k)).length) := hid e2
        have E1 : Hid ((b.toNat : Int) = k) := hid (by rw [e1]; exact of_nat_toNat k hlt)
        clear e1 e2 hp HX HP
        generalize spell (UInt8.ofNat k) = p at *
        go_wp2_with fail
        refine (H1 _).out.mono ?_
        rintro e w1 ⟨rfl, k1⟩
        have hbel1 := hbel.trans (k1.mono hbel.size)
        clear k1 H1
        go_wp2
        go_ret2
        rw [E1.out, E2.out]
        exact ⟨rfl, hbel1⟩
      · have HP2 : Hid (∀ j < k + 1, ¬ spell (UInt8.ofNat j) <+: s.data.toList) := hid (fun j hj => by
          by_cases e : j = k
          · rw [e]; exact hp
          · exact HP.out j (by omega))
        by_cases hl : (spell (UInt8.ofNat k)).length ≤ s.size
        · have g2 := pre_no hp hl
          clear hp HX HP
          generalize spell (UInt8.ofNat k) = p at *
          go_wp2_with fail
          refine (H1 _).out.mono ?_
          rintro e w1 ⟨rfl, k1⟩
          have hbel1 := hbel.trans (k1.mono hbel.size)
          clear k1 H1
          go_wp2
          go_roundw
          case rel => exact ⟨k + 1, by omega, by go_num, HP2, hbel1⟩
          case measure => simp [intOf]; omega
        · clear hp HX HP
          generalize spell (UInt8.ofNat k) = p at *
          go_wp2_with fail
          refine (H1 _).out.mono ?_
          rintro e w1 ⟨rfl, k1⟩
          have hbel1 := hbel.trans (k1.mono hbel.size)
          clear k1 H1
          go_wp2
          go_roundw
          case rel => exact ⟨k + 1, by omega, by go_num, HP2, hbel1⟩
          case measure => simp [intOf]; omega
    · obtain rfl : k = 256 := by omega
      have hf := width_none HP.out
      rw [HX.out] at hf
      injection hf with e1 e2
      subst e1 e2
      clear HP HX
      go_wp2
      go_ret2
      exact ⟨rfl, hbel⟩
end Go.Proofs.YtkoajdbijlpgaaaDoor
