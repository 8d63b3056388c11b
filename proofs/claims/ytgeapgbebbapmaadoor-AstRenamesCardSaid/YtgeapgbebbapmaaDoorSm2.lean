/-
  WALKS: the document's Same of layer 19, at two copies of one query.
-/
import Derived.Test.YtgeapgbebbapmaaDoorSm1
import Derived.Test.YtgeapgbebbapmaaDoorRfs
import Derived.Deep.QuietTactic
import Derived.BigQuiet
import Derived.Laws.StructEq
namespace Go.Proofs.YtgeapgbebbapmaaDoor
open Go.RowKit

set_option maxRecDepth 100000 in
set_option maxHeartbeats 2000000 in
theorem same_strings (A A' : Option Addr) (c c' : Nat) (l : List Str) (w : World) (h : NmsAt w A l) (h' : NmsAt w A' l) (hm : l.length ≤ 9223372036854775807) :
    Calls Tryd.prog 47 #[.slice A l.length c, .slice A' l.length c'] w fun e w' => e = .returned (.bool true) ∧ Below w.heap.size w w' := by
  have H1 := hid h
  have H2 := hid h'
  clear h h'
  go_enter Tryd.func47, Tryd.ntmps47
  go_wp2
  go_loopw [5] (fun i wr => ∃ k : Nat, k ≤ l.length ∧ i = .int .i64 k ∧ Hid (Below w.heap.size w wr)) (fun i _ => l.length - (intOf i).toNat)
  case atStart => exact ⟨0, by omega, rfl, hid (Below.refl _ _)⟩
  case round =>
    obtain ⟨k, hk, rfl, HB⟩ := hrel
    by_cases hlt : k < l.length
    · obtain ⟨b, o, rfl, hc⟩ := H1.out (by omega)
      obtain ⟨b', o', rfl, hc'⟩ := H2.out (by omega)
      have c0 := cell_keep HB.out (hc k hlt)
      have c1 := cell_keep HB.out (hc' k hlt)
      obtain ⟨Z, hZ⟩ : ∃ Y : ByteArray, (⟨l[k].toArray⟩ : ByteArray) = Y := ⟨_, rfl⟩
      rw [hZ] at c0 c1
      have hb : (Z.toList == Z.toList) = true := by simp
      clear hc hc' hZ
      go_wp2
      go_quiet (fail)
      have HB2 := hid (below_drewN HB.out nq)
      go_wp2
      go_roundw
      case rel => exact ⟨k + 1, by omega, by go_num, HB2⟩
      case measure => simp [intOf]; omega
    · go_wp2
      go_ret
      exact ⟨rfl, HB.out⟩

set_option maxRecDepth 100000 in
set_option maxHeartbeats 2000000 in
theorem same_keys (A A' : Option Addr) (c c' : Nat) (l : List Ky) (w : World) (h : KysAt w A l) (h' : KysAt w A' l) (hm : l.length ≤ 9223372036854775807) :
    Calls Tryd.prog 48 #[.slice A l.length c, .slice A' l.length c'] w fun e w' => e = .returned (.bool true) ∧ Below w.heap.size w w' := by
  have H1 := hid h
  have H2 := hid h'
  have GV := guardKey
  clear h h'
  go_enter Tryd.func48, Tryd.ntmps48
  go_wp2
  go_loopw [5] (fun i wr => ∃ k : Nat, k ≤ l.length ∧ i = .int .i64 k ∧ Hid (Below w.heap.size w wr)) (fun i _ => l.length - (intOf i).toNat)
  case atStart => exact ⟨0, by omega, rfl, hid (Below.refl _ _)⟩
  case round =>
    obtain ⟨k, hk, rfl, HB⟩ := hrel
    by_cases hlt : k < l.length
    · obtain ⟨b, o, rfl, hc⟩ := H1.out (by omega)
      obtain ⟨b', o', rfl, hc'⟩ := H2.out (by omega)
      obtain ⟨c0, c1⟩ := hc k hlt
      obtain ⟨c2, c3⟩ := hc' k hlt
      replace c0 := cell_keep HB.out c0
      replace c1 := cell_keep HB.out c1
      replace c2 := cell_keep HB.out c2
      replace c3 := cell_keep HB.out c3
      obtain ⟨Z, hZ⟩ : ∃ Y : ByteArray, (⟨l[k].v.toArray⟩ : ByteArray) = Y := ⟨_, rfl⟩
      obtain ⟨d, hd⟩ : ∃ Y : Bool, l[k].desc = Y := ⟨_, rfl⟩
      rw [hZ] at c0 c2
      rw [hd] at c1 c3
      have EQ := eq_key Z d Z d (x := true) (by simp)
      clear hc hc' hZ hd
      go_wp2
      go_quiet (fail)
      have HB2 := hid (below_drewN HB.out nq)
      go_wp2
      go_roundw
      case rel => exact ⟨k + 1, by omega, by go_num, HB2⟩
      case measure => simp [intOf]; omega
    · go_wp2
      go_ret
      exact ⟨rfl, HB.out⟩
end Go.Proofs.YtgeapgbebbapmaaDoor
