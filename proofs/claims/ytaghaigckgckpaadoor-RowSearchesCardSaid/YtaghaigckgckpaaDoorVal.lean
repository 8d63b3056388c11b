/-
  WALKS: value.Valid, value.quote, value.Text.
-/
import Derived.Test.YtaghaigckgckpaaDoorPlain
import Derived.Test.YtaghaigckgckpaaDoorInfo
import Derived.Test.YtaghaigckgckpaaDoorShelf
import Derived.RegionTactic
import Derived.StillTailTactics
import Derived.Deep.RegionLaw
namespace Go.Proofs.YtaghaigckgckpaaDoor
open Go.RowKit

set_option maxHeartbeats 400000 in
theorem value_valid (v : V) (w : World) {x : Bool} (hx : v.valid = x) :
    Calls Tryd.prog 38 #[.agg #[.int .i64 v.k, .int .i64 v.n, .string v.s]] w fun e w' => e = .returned (.bool x) ∧ Below w.heap.size w w' := by
  obtain ⟨k, n, s⟩ := v
  have hb := below_one w (.cells #[.int .i64 k, .int .i64 n, .string s] 43)
  by_cases h1 : k = 1
  · have H : Hid (s.toList.isEmpty = x) := hid (by rw [← hx]; simp [V.valid, h1])
    clear hx
    subst h1
    go_enter Tryd.func38, Tryd.ntmps38
    go_wp2
    go_ret
    exact ⟨ret_b H.out, hb⟩
  · have b1 : (k == 1) = false := by simpa using h1
    by_cases h2 : k = 2
    · by_cases h3 : n = 0
      · have H : Hid (decide (s.size ≤ 24) = x) := hid (by rw [← hx]; simp [V.valid, h2, h3])
        clear hx
        subst h2 h3
        go_enter Tryd.func38, Tryd.ntmps38
        go_wp2
        go_ret
        exact ⟨ret_b (by rw [← H.out]; simp; omega), hb⟩
      · have b3 : (n == 0) = false := by simpa using h3
        have H : Hid (false = x) := hid (by rw [← hx]; simp [V.valid, h2, h3])
        clear hx
        subst h2
        go_enter Tryd.func38, Tryd.ntmps38
        go_wp2
        go_ret
        exact ⟨ret_b H.out, hb⟩
    · have b2 : (k == 2) = false := by simpa using h2
      have H : Hid (false = x) := hid (by rw [← hx]; simp [V.valid, h1, h2])
      clear hx h1 h2
      go_enter Tryd.func38, Tryd.ntmps38
      go_wp2
      go_ret
      exact ⟨ret_b H.out, hb⟩

theorem byteCells_snoc (l : List UInt8) (cs : List UInt8) (x : List Value) (hx : Lib.byteCells cs = x) {w : World} {B : Nat} {v : Value} {m : Nat} (hm : cs.length = m)
    (h : w.ownsRow B 5 1 v (l.length + m) (Lib.byteCells l ++ x)) : w.ownsRow B 5 1 v (l ++ cs).length (Lib.byteCells (l ++ cs)) := by
  subst hx hm; rw [List.length_append, Lib.byteCells_append]; exact h

theorem hexd_eq : ∀ q < 16, hexd q = (ByteArray.mk #[48, 49, 50, 51, 52, 53, 54, 55, 56, 57, 97, 98, 99, 100, 101, 102]).data[q]! := by decide

theorem hexCells (x : Nat) (hx : x < 256) (h1 : ((x : Int) / 16).toNat < (ByteArray.mk #[48, 49, 50, 51, 52, 53, 54, 55, 56, 57, 97, 98, 99, 100, 101, 102]).size) (h2 : ((x : Int) % 16).toNat < (ByteArray.mk #[48, 49, 50, 51, 52, 53, 54, 55, 56, 57, 97, 98, 99, 100, 101, 102]).size) :
    Lib.byteCells [92, 120, hexd (x / 16), hexd (x % 16)] = [.int .u8 92, .int .u8 120, .int .u8 ((ByteArray.mk #[48, 49, 50, 51, 52, 53, 54, 55, 56, 57, 97, 98, 99, 100, 101, 102])[((x : Int) / 16).toNat]).toNat, .int .u8 ((ByteArray.mk #[48, 49, 50, 51, 52, 53, 54, 55, 56, 57, 97, 98, 99, 100, 101, 102])[((x : Int) % 16).toNat]).toNat] := by
  have e1 := hex_index (x / 16) (by omega) (by simpa using h1) hexd hexd_eq
  have e2 := hex_index (x % 16) (by omega) (by simpa using h2) hexd hexd_eq
  simp only [Int.natCast_ediv, Int.natCast_emod, Int.cast_ofNat_Int] at e1 e2
  simp only [Lib.byteCells, List.map_cons, List.map_nil, ← e1, ← e2]
  rfl

set_option maxRecDepth 100000 in
set_option maxHeartbeats 1000000 in
theorem value_quote (s : ByteArray) (w : World) (hs : s.size ≤ 100000) :
    Calls Tryd.prog 40 #[.string s] w fun e w' => e = .returned (.string ⟨(quoteL s.data.toList).toArray⟩) ∧ Below w.heap.size w w' := by
  obtain ⟨i0, hi, hz0, hz1, hz2⟩ := info_parts infoByte
  go_enter Tryd.func40, Tryd.ntmps40
  go_wp2_with (first
    | (at_make; refine wpList_make_own _ rfl _ _ 62 rfl w.heap.size 5 i0 (.int .u8 0) 1 Tryd.underlying62 hi hz0 hz1 _ _ _ (s.size + 2) rfl rfl (by omega) (by rw [hz2]; omega) (by unfold maxLen; omega) (Nat.le_refl _) ?_; intro w1 hown1 hg1)
    | (at_builtin; refine wpList_append_new Tryd.underlying62 hi hz0 hz1 hz2 rfl (by decide) (by decide) rfl rfl rfl hown1 rfl rfl rfl (by omega) (by have := hg1.size; omega) ?_; intro v2 w2 hown2 hg2))
  have hb2 : Below w.heap.size w w2 := ((Below.refl _ _).grown hg1 (Nat.le_refl _) (by simp)).trans (grown_below hown1 hg2 hg1.size)
  have hown2' := byteCells_snoc [] [34] _ rfl rfl hown2
  clear hown1 hg1 hg2 hown2
  go_loopw [3, 15] (fun v i wr => ∃ (k : Nat) (l : List UInt8), k ≤ s.size ∧ i = .int .i64 k ∧ wr.ownsRow w.heap.size 5 1 v l.length (Lib.byteCells l) ∧ l.length ≤ 4 * k + 1 ∧ Hid (l = 34 :: (s.data.toList.take k).flatMap spell) ∧ Below w.heap.size w wr) (fun _ i _ => s.size - (intOf i).toNat)
  case atStart => exact ⟨0, [34], by omega, rfl, hown2', by simp, hid (by simp), hb2⟩
  case round =>
    obtain ⟨k, l, hk, rfl, hown, hlen, HL, hbel⟩ := hrel
    clear hown2' hb2
    by_cases hlt : k < s.size
    · have hsl : (34 :: (s.data.toList.take (k + 1)).flatMap spell) = (34 :: (s.data.toList.take k).flatMap spell) ++ spell s[k] := by
        rw [flatMap_take_succ _ _ _ (by simpa using hlt)]; rfl
      have HS : Hid ((34 :: (s.data.toList.take (k + 1)).flatMap spell) = l ++ spell s[k]) := by rw [HL.out]; exact hid hsl
      clear hsl HL
      have hb : s[k].toNat < 256 := s[k].toNat_lt
      have hcase : (s[k].toNat = 34 ∨ s[k].toNat = 92) ∨ s[k].toNat = 10 ∨ s[k].toNat = 9 ∨ (32 ≤ s[k].toNat ∧ s[k].toNat ≤ 126 ∧ s[k].toNat ≠ 34 ∧ s[k].toNat ≠ 92) ∨ ((s[k].toNat < 32 ∨ 126 < s[k].toNat) ∧ s[k].toNat ≠ 10 ∧ s[k].toNat ≠ 9) := by omega
      rcases hcase with (h | h) | h | h | h | h
      · have HP : Hid (spell s[k] = [92, 34]) := hid (by have e : s[k] = 34 := UInt8.toNat.inj h; rw [e]; rfl)
        go_wp2_with (at_builtin; refine wpList_append_new Tryd.underlying62 hi hz0 hz1 hz2 rfl (by decide) (by decide) rfl rfl rfl hown rfl rfl rfl (by omega) hbel.size ?_; intro v2 w2 hown2 hg2)
        go_roundw
        case rel => exact ⟨k + 1, l ++ [92, 34], by omega, by go_num, byteCells_snoc _ _ _ rfl rfl hown2, by simp; omega, hid (by rw [← HP.out]; exact HS.out.symm), hbel.trans (grown_below hown hg2 hbel.size)⟩
        case measure => simp [intOf]; omega
      · have HP : Hid (spell s[k] = [92, 92]) := hid (by have e : s[k] = 92 := UInt8.toNat.inj h; rw [e]; rfl)
        go_wp2_with (at_builtin; refine wpList_append_new Tryd.underlying62 hi hz0 hz1 hz2 rfl (by decide) (by decide) rfl rfl rfl hown rfl rfl rfl (by omega) hbel.size ?_; intro v2 w2 hown2 hg2)
        go_roundw
        case rel => exact ⟨k + 1, l ++ [92, 92], by omega, by go_num, byteCells_snoc _ _ _ rfl rfl hown2, by simp; omega, hid (by rw [← HP.out]; exact HS.out.symm), hbel.trans (grown_below hown hg2 hbel.size)⟩
        case measure => simp [intOf]; omega
      · have HP : Hid (spell s[k] = [92, 110]) := hid (by unfold spell; rw [if_neg (by omega), if_pos h])
        go_wp2_with (at_builtin; refine wpList_append_new Tryd.underlying62 hi hz0 hz1 hz2 rfl (by decide) (by decide) rfl rfl rfl hown rfl rfl rfl (by omega) hbel.size ?_; intro v2 w2 hown2 hg2)
        go_roundw
        case rel => exact ⟨k + 1, l ++ [92, 110], by omega, by go_num, byteCells_snoc _ _ _ rfl rfl hown2, by simp; omega, hid (by rw [← HP.out]; exact HS.out.symm), hbel.trans (grown_below hown hg2 hbel.size)⟩
        case measure => simp [intOf]; omega
      · have HP : Hid (spell s[k] = [92, 116]) := hid (by unfold spell; rw [if_neg (by omega), if_neg (by omega), if_pos h])
        go_wp2_with (at_builtin; refine wpList_append_new Tryd.underlying62 hi hz0 hz1 hz2 rfl (by decide) (by decide) rfl rfl rfl hown rfl rfl rfl (by omega) hbel.size ?_; intro v2 w2 hown2 hg2)
        go_roundw
        case rel => exact ⟨k + 1, l ++ [92, 116], by omega, by go_num, byteCells_snoc _ _ _ rfl rfl hown2, by simp; omega, hid (by rw [← HP.out]; exact HS.out.symm), hbel.trans (grown_below hown hg2 hbel.size)⟩
        case measure => simp [intOf]; omega
      · obtain ⟨g1, g2, g3, g4⟩ := h
        have HP : Hid (spell s[k] = [s[k]]) := hid (by unfold spell; rw [if_neg (by omega), if_neg (by omega), if_neg (by omega), if_pos ⟨g1, g2⟩])
        have b34 : ((s[k].toNat : Int) == 34) = false := by simp; omega
        have b92 : ((s[k].toNat : Int) == 92) = false := by simp; omega
        have b10 : ((s[k].toNat : Int) == 10) = false := by simp; omega
        have b9 : ((s[k].toNat : Int) == 9) = false := by simp; omega
        go_wp2_with (at_builtin; refine wpList_append_new Tryd.underlying62 hi hz0 hz1 hz2 rfl (by decide) (by decide) rfl rfl rfl hown rfl rfl rfl (by omega) hbel.size ?_; intro v2 w2 hown2 hg2)
        go_roundw
        case rel => exact ⟨k + 1, l ++ [s[k]], by omega, by go_num, byteCells_snoc _ _ _ rfl rfl hown2, by simp; omega, hid (by rw [← HP.out]; exact HS.out.symm), hbel.trans (grown_below hown hg2 hbel.size)⟩
        case measure => simp [intOf]; omega
      · obtain ⟨g1, g2, g3⟩ := h
        have HP : Hid (spell s[k] = [92, 120, hexd (s[k].toNat / 16), hexd (s[k].toNat % 16)]) := hid (by unfold spell; rw [if_neg (by omega), if_neg (by omega), if_neg (by omega), if_neg (by omega)])
        have b34 : ((s[k].toNat : Int) == 34) = false := by simp; omega
        have b92 : ((s[k].toNat : Int) == 92) = false := by simp; omega
        have b10 : ((s[k].toNat : Int) == 10) = false := by simp; omega
        have b9 : ((s[k].toNat : Int) == 9) = false := by simp; omega
        clear g2 g3
        have i0' := u8_and15 s[k].toNat hb
        have i1 : 0 ≤ (s[k].toNat : Int) / 16 := by omega
        have i2 : (s[k].toNat : Int) / 16 < 16 := by omega
        have i3 : 0 ≤ (s[k].toNat : Int) % 16 := by omega
        have i4 : (s[k].toNat : Int) % 16 < 16 := by omega
        rcases g1 with g1 | g1
        all_goals go_wp2_with fail
        all_goals
          go_region_law (refine step_append_new_drew Tryd.underlying62 hi hz0 hz1 hz2 rfl (by decide) (by decide) rfl rfl rfl hown rfl rfl rfl (by omega) hbel.size ?_; intro v2 w2 hown2 hg2)
        all_goals
          go_wp2
          go_roundw
          case rel => exact ⟨k + 1, l ++ [92, 120, hexd (s[k].toNat / 16), hexd (s[k].toNat % 16)], by omega, by go_num, byteCells_snoc _ _ _ (hexCells _ hb _ _) rfl hown2, by simp; omega, hid (by rw [← HP.out]; exact HS.out.symm), hbel.drew.trans (grown_below (w := wr.drew) hown.drew hg2 hbel.size)⟩
          case measure => simp [intOf]; omega
    · have e : s.data.toList.take k = s.data.toList := List.take_of_length_le (by simp; omega)
      rw [e] at HL
      go_wp2_with (at_builtin; refine wpList_append_new Tryd.underlying62 hi hz0 hz1 hz2 rfl (by decide) (by decide) rfl rfl rfl hown rfl rfl rfl (by omega) hbel.size ?_; intro v2 w2 hown2 hg2; have hown3 := byteCells_snoc _ [34] _ rfl rfl hown2; have hcv := run_own_to_string Tryd.underlying62 Tryd.underlying5 Tryd.underlying9 _ hown3)
      go_ret
      refine ⟨?_, hbel.trans (grown_below hown hg2 hbel.size)⟩
      rw [HL.out]; rfl
end Go.Proofs.YtaghaigckgckpaaDoor
