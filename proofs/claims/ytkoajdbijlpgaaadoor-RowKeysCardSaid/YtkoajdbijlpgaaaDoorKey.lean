/-
  WALK: row.Key.
-/
import Derived.Test.YtkoajdbijlpgaaaDoorNum
import Derived.Test.YtkoajdbijlpgaaaDoorRow2
import Derived.Lib.AppendStr
namespace Go.Proofs.YtkoajdbijlpgaaaDoor
open Go.RowKit

theorem appendInt (B n : Nat) (i : Int) (hi : I64 i) (sv : Value) (xs : List Value) (w : World) (hown : w.ownsRow B 5 1 sv n xs) (hBw : B ≤ w.heap.size) (hlim : n + 21 ≤ 140737488355328) (htab : Lib.TabBelow Tryd.prog B w "internal/strconv.uint64pow10" .u64 Lib.pow10Tab) :
    Calls Tryd.prog 58 #[sv, .int .i64 i, .int .i64 10] w fun e w' => ∃ v', e = .returned v' ∧ w'.ownsRow B 5 1 v' (n + (Lib.itoa i).length) (xs ++ Lib.byteCells (Lib.itoa i)) ∧ Below B w w' :=
  (Tryd.strconv_AppendInt_10 B n i hi.1 hi.2 sv xs w hown hBw hlim htab).mono fun _ _ ⟨v', h1, h2, h3, _⟩ => ⟨v', h1, h2, h3⟩

theorem dlen (s : ByteArray) : s.data.toList.length = s.size := by rw [Array.length_toList]; rfl

theorem keyL_take_succ {r : List V} {k : Nat} (h : k < r.length) : keyL (r.take (k + 1)) = keyL (r.take k) ++ keyV r[k] := by
  unfold keyL; exact flatMap_take_succ _ _ _ h

set_option maxRecDepth 100000 in
set_option maxHeartbeats 2000000 in
theorem row_key (A : Option Addr) (c : Nat) (r : List V) (w : World) (hr : RowAt w A r) (hl : r.length ≤ 100000) (hok : ∀ v ∈ r, v.ok) (ht : Tab w) :
    Calls Tryd.prog 29 #[.slice A r.length c] w fun e w' => e = .returned (.string ⟨(keyL r).toArray⟩) ∧ Below w.heap.size w w' := by
  obtain ⟨i0, hi, hz0, hz1, hz2⟩ := info_parts infoByte
  have HT := hid ht
  clear ht
  go_enter Tryd.func29, Tryd.ntmps29
  go_wp2
  go_loopw [3, 7] (fun v i wr => ∃ (k : Nat) (l : List UInt8), k ≤ r.length ∧ i = .int .i64 k ∧ wr.ownsRow w.heap.size 5 1 v l.length (Lib.byteCells l) ∧ l.length ≤ 100100 * k ∧ Hid (l = keyL (r.take k)) ∧ Below w.heap.size w wr) (fun _ i _ => r.length - (intOf i).toNat)
  case atStart => exact ⟨0, [], by omega, rfl, World.ownsRow_nil _ _ _ _, by simp, hid rfl, Below.refl _ _⟩
  case round =>
    obtain ⟨k, l, hk, rfl, hown, hlen, HL, hbel⟩ := hrel
    by_cases hlt : k < r.length
    · obtain ⟨b, o, rfl, hcell⟩ := hr (by omega)
      obtain ⟨c0, c1, c2⟩ := hcell k hlt
      have hin := hok r[k] (List.getElem_mem hlt)
      have hb : b < w.heap.size := cell_lt c0
      have HS := hid (keyL_take_succ hlt)
      generalize r[k] = v at *
      obtain ⟨vk, vn, vs⟩ := v
      obtain ⟨h1, h2, h3⟩ := hin
      have h1 : I64 vk := h1
      have h2 : I64 vn := h2
      have h3 : vs.size ≤ 100000 := h3
      have l1 := Lib.itoa_length_le vk h1.1 h1.2
      have l2 := Lib.itoa_length_le vn h2.1 h2.2
      have h4 : I64 (vs.size : Int) := ⟨by omega, by omega⟩
      have l3 := Lib.itoa_length_le (vs.size : Int) h4.1 h4.2
      have hd0 := (hbel.cell (p := ⟨b, o + k * 3, none⟩) hb).trans c0
      clear hcell hr hok
      -- Kind
      go_wp2_with fail
      refine (appendInt w.heap.size _ vk h1 _ _ wr hown hbel.size (by omega) (HT.out.on hbel)).mono ?_
      rintro e w1 ⟨v1, rfl, o1, b1⟩
      have k1 := hbel.trans b1
      have o1' := byteCells_snoc l (Lib.itoa vk) _ rfl rfl o1
      clear b1 hbel o1 hown hd0
      have hd1 := (k1.cell (p := ⟨b, o + k * 3 + 1, none⟩) hb).trans c1
      go_wp2_with (at_builtin; refine wpList_append_new Tryd.underlying88 hi hz0 hz1 hz2 rfl (by decide) (by decide) rfl rfl rfl o1' rfl rfl rfl (by simp; omega) k1.size ?_; intro v2 w2 o2 g2; have hd2 := ((k1.trans (grown_below o1' g2 k1.size)).cell (p := ⟨b, o + k * 3 + 1, none⟩) hb).trans c1)
      have k2 := k1.trans (grown_below o1' g2 k1.size)
      have o2' := byteCells_snoc _ [32] _ rfl rfl o2
      clear o1' g2 k1 o2 hd1
      -- Int
      refine (appendInt w.heap.size _ vn h2 _ _ w2 o2' k2.size (by simp; omega) (HT.out.on k2)).mono ?_
      rintro e w3 ⟨v3, rfl, o3, b3⟩
      have k3 := k2.trans b3
      have o3' := byteCells_snoc _ (Lib.itoa vn) _ rfl rfl o3
      clear b3 k2 o2' o3 hd2
      go_wp2_with (at_builtin; refine wpList_append_new Tryd.underlying88 hi hz0 hz1 hz2 rfl (by decide) (by decide) rfl rfl rfl o3' rfl rfl rfl (by simp; omega) k3.size ?_; intro v4 w4 o4 g4; have hd4 := ((k3.trans (grown_below o3' g4 k3.size)).cell (p := ⟨b, o + k * 3 + 2, none⟩) hb).trans c2)
      have k4 := k3.trans (grown_below o3' g4 k3.size)
      have o4' := byteCells_snoc _ [32] _ rfl rfl o4
      clear o3' g4 k3 o4
      -- length
      refine (appendInt w.heap.size _ (vs.size : Int) h4 _ _ w4 o4' k4.size (by simp; omega) (HT.out.on k4)).mono ?_
      rintro e w5 ⟨v5, rfl, o5, b5⟩
      have k5 := k4.trans b5
      have o5' := byteCells_snoc _ (Lib.itoa (vs.size : Int)) _ rfl rfl o5
      clear b5 k4 o4' o5 hd4
      go_wp2_with (first
        | (at_builtin; refine wpList_append_new Tryd.underlying88 hi hz0 hz1 hz2 rfl (by decide) (by decide) rfl rfl rfl o5' rfl rfl rfl (by simp; omega) k5.size ?_; intro v6 w6 o6 g6; have hd6 := ((k5.trans (grown_below o5' g6 k5.size)).cell (p := ⟨b, o + k * 3 + 2, none⟩) hb).trans c2; have k6 := k5.trans (grown_below o5' g6 k5.size); have o6' := byteCells_snoc _ [32] _ rfl rfl o6)
        | (at_builtin; refine Lib.wpList_append_own_string _ rfl _ _ 88 9 rfl w.heap.size 5 i0 Tryd.underlying88 Tryd.underlying9 hi hz0 hz1 hz2 _ _ _ rfl o6' vs rfl (by unfold maxLen; simp; omega) (by simp; omega) k6.size ?_; intro v7 w7 o7 g7 _))
      have k7 := k6.trans (grown_below o6' g7 k6.size)
      have o7' := byteCells_snoc _ vs.data.toList _ rfl (dlen vs) o7
      clear o5' g6 k5 o6 hd6 g7 o7 o6' k6
      go_roundw
      case rel => exact ⟨k + 1, _, by omega, by go_num, o7', by have := dlen vs; simp only [List.length_append, List.length_cons, List.length_nil]; omega, hid (by rw [HS.out, HL.out]; simp [keyV]), k7⟩
      case measure => simp [intOf]; omega
    · have e : r.take k = r := List.take_of_length_le (by omega)
      rw [e] at HL
      have hcv := run_own_to_string Tryd.underlying88 Tryd.underlying5 Tryd.underlying9 _ hown
      clear hr hok e hown
      go_wp2
      go_ret
      exact ⟨ret_s HL.out, hbel⟩
end Go.Proofs.YtkoajdbijlpgaaaDoor
