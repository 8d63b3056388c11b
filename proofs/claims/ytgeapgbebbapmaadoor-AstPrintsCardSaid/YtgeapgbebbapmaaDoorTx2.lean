/-
  WALK: the document's Literal (layer 19).
-/
import Derived.Test.YtgeapgbebbapmaaDoorTx1
import Derived.Test.YtgeapgbebbapmaaDoorText
import Derived.BigQuiet
import Derived.Deep.QuietTactic
namespace Go.Proofs.YtgeapgbebbapmaaDoor
open Go.RowKit

theorem ext_one (s : ByteArray) (k : Nat) (h : k < s.size) : s.extract k (k + 1) = ⟨#[s[k]]⟩ := by
  apply ByteArray.ext
  simp only [ByteArray.data_extract]
  apply Array.ext'
  rw [Array.toList_extract, List.extract]
  have h2 : k < s.data.toList.length := by simpa using h
  rw [List.drop_eq_getElem_cons h2, show k + 1 - k = 1 by omega]
  simp
  rfl
theorem quote_step {s : ByteArray} {k : Nat} (h : k < s.size) : (34 :: (s.data.toList.take (k + 1)).flatMap spell) = (34 :: (s.data.toList.take k).flatMap spell) ++ spell s[k] := by
  rw [flatMap_take_succ _ _ _ (by simpa using h)]; rfl
theorem str_of {A : ByteArray} {x : Str} (h : A.data.toList = x) : Value.string A = .string ⟨x.toArray⟩ := by
  subst h
  cases A; simp
theorem cat_of {A B : ByteArray} {a b : Str} (hA : A.data.toList = a) (hB : B.data.toList = b) : (A ++ B).data.toList = a ++ b := by
  subst hA hB
  simp [ByteArray.data_append]
theorem lit_of {a : Str} {A : ByteArray} (h : (⟨a.toArray⟩ : ByteArray) = A) : A.data.toList = a := by subst h; rfl
theorem hex_at (q : Nat) (h : q < 16) : ((ByteArray.mk #[48, 49, 50, 51, 52, 53, 54, 55, 56, 57, 97, 98, 99, 100, 101, 102]).extract q (q + 1)).data.toList = [hexd q] := by
  have : q = 0 ∨ q = 1 ∨ q = 2 ∨ q = 3 ∨ q = 4 ∨ q = 5 ∨ q = 6 ∨ q = 7 ∨ q = 8 ∨ q = 9 ∨ q = 10 ∨ q = 11 ∨ q = 12 ∨ q = 13 ∨ q = 14 ∨ q = 15 := by omega
  rcases this with rfl | rfl | rfl | rfl | rfl | rfl | rfl | rfl | rfl | rfl | rfl | rfl | rfl | rfl | rfl | rfl <;> decide

set_option maxRecDepth 100000 in
set_option maxHeartbeats 4000000 in
theorem ref_literal (v : V) (w : World) (hv : v.valid = true) (hn : I64 v.n) {x : Str} (hx : textL v = x) :
    Calls Tryd.prog 66 #[.agg #[.int .i64 v.k, .int .i64 v.n, .string v.s]] w fun e w' => e = .returned (.string ⟨x.toArray⟩) ∧ Below w.heap.size w w' := by
  obtain ⟨k, n, s⟩ := v
  have HB0 : Hid (Below (w.heap.size + 1) (w.alloc (.cells #[.int .i64 k, .int .i64 n, .string s] 54)) (w.alloc (.cells #[.int .i64 k, .int .i64 n, .string s] 54))) := hid (Below.refl _ _)
  by_cases h1 : k = 1
  · have C := fun W => hid (ref_number n hn W ((textL_int hv h1).symm.trans hx))
    have hb0 := below_one w (.cells #[.int .i64 k, .int .i64 n, .string s] 54)
    subst h1
    clear hx hv HB0
    go_enter Tryd.func66, Tryd.ntmps66
    go_wp2_with fail
    refine (C _).out.mono ?_
    rintro e w1 ⟨rfl, b1⟩
    have hb := hb0.trans (b1.mono hb0.size)
    clear C b1 hb0
    go_wp2
    go_ret
    exact ⟨rfl, hb⟩
  · have b1 : (k == 1) = false := by simpa using h1
    have h2 : s.size ≤ 24 := by
      have h2 : k = 2 := by
        apply Classical.byContradiction
        intro h2
        simp [V.valid, h1, h2] at hv
      have : n = 0 ∧ s.size ≤ 24 := by simpa [V.valid, h2] using hv
      exact this.2
    have HX : Hid (34 :: (s.data.toList.flatMap spell ++ [34]) = x) := hid ((textL_str hv h1).symm.trans hx)
    clear hx hv h1 hn
    go_enter Tryd.func66, Tryd.ntmps66
    go_wp2
    go_loopw [5, 4] (fun i u wr => ∃ (j : Nat) (l : Str), j ≤ s.size ∧ i = .int .i64 j ∧ u = .string ⟨l.toArray⟩ ∧ l.length ≤ 4 * j + 1 ∧ Hid (l = 34 :: (s.data.toList.take j).flatMap spell) ∧ Hid (Below (w.heap.size + 1) (w.alloc (.cells #[.int .i64 k, .int .i64 n, .string s] 54)) wr)) (fun i _ _ => s.size - (intOf i).toNat)
    case atStart => exact ⟨0, [34], by omega, rfl, rfl, by simp, hid (by simp), HB0⟩
    case round =>
      clear HB0
      obtain ⟨j, l, hj, rfl, rfl, hll, HL, HB⟩ := hrel
      have d2 : wr.cell? ⟨w.heap.size, 2, none⟩ = some (.string s) := (HB.out.cell (p := ⟨w.heap.size, 2, none⟩) (by simp)).trans (by simp)
      obtain ⟨S, hS, hSd⟩ : ∃ Y : ByteArray, (⟨l.toArray⟩ : ByteArray) = Y ∧ Y.data.toList = l := ⟨_, rfl, rfl⟩
      have hSb : S.size ≤ 4 * j + 1 := by
        have h1 : S.size = l.length := by rw [← hSd]; simp
        omega
      rw [hS]
      have HS := hid hS
      clear hS hSd
      by_cases hlt : j < s.size
      · have HQ : Hid (l ++ spell s[j] = 34 :: (s.data.toList.take (j + 1)).flatMap spell) := hid (by rw [quote_step hlt, HL.out])
        have hb : s[j].toNat < 256 := s[j].toNat_lt
        have hsl := spell_length s[j]
        have he := ext_one s j hlt
        have hez : (s.extract j (j + 1)).size = 1 := by rw [he]; rfl
        have HE : Hid ((s.extract j (j + 1)).data.toList = [s[j]]) := hid (by rw [he])
        have hez2 : ¬ (1 : Nat) < (s.extract j (j + 1)).size := by omega
        have hcase : (s[j].toNat = 34 ∨ s[j].toNat = 92) ∨ s[j].toNat = 10 ∨ s[j].toNat = 9 ∨ (32 ≤ s[j].toNat ∧ s[j].toNat ≤ 126 ∧ s[j].toNat ≠ 34 ∧ s[j].toNat ≠ 92) ∨ ((s[j].toNat < 32 ∨ 126 < s[j].toNat) ∧ s[j].toNat ≠ 10 ∧ s[j].toNat ≠ 9 ∧ s[j].toNat ≠ 34 ∧ s[j].toNat ≠ 92) := by omega
        clear he hez
        rcases hcase with h | h | h | h | h
        · have HP : Hid (spell s[j] = [92, s[j]]) := hid (by unfold spell; rw [if_pos h])
          rcases h with h | h
          all_goals
            go_wp2
            go_roundw
            case rel => exact ⟨j + 1, l ++ [92, s[j]], by omega, by go_num, by rw [show l ++ [92, s[j]] = (l ++ [92]) ++ [s[j]] by simp]; exact str_of (cat_of (cat_of (lit_of HS.out) rfl) HE.out), by simp; omega, hid (by rw [← HP.out]; exact HQ.out), HB⟩
            case measure => simp [intOf]; omega
        · have HP : Hid (spell s[j] = [92, 110]) := hid (by unfold spell; rw [if_neg (by omega), if_pos h])
          go_wp2
          go_roundw
          case rel => exact ⟨j + 1, l ++ [92, 110], by omega, by go_num, str_of (cat_of (lit_of HS.out) rfl), by simp; omega, hid (by rw [← HP.out]; exact HQ.out), HB⟩
          case measure => simp [intOf]; omega
        · have HP : Hid (spell s[j] = [92, 116]) := hid (by unfold spell; rw [if_neg (by omega), if_neg (by omega), if_pos h])
          go_wp2
          go_roundw
          case rel => exact ⟨j + 1, l ++ [92, 116], by omega, by go_num, str_of (cat_of (lit_of HS.out) rfl), by simp; omega, hid (by rw [← HP.out]; exact HQ.out), HB⟩
          case measure => simp [intOf]; omega
        · obtain ⟨g1, g2, g3, g4⟩ := h
          have HP : Hid (spell s[j] = [s[j]]) := hid (by unfold spell; rw [if_neg (by omega), if_neg (by omega), if_neg (by omega), if_pos ⟨g1, g2⟩])
          have b34 : ((s[j].toNat : Int) == 34) = false := by simp; omega
          have b92 : ((s[j].toNat : Int) == 92) = false := by simp; omega
          have b10 : ((s[j].toNat : Int) == 10) = false := by simp; omega
          have b9 : ((s[j].toNat : Int) == 9) = false := by simp; omega
          go_wp2
          go_roundw
          case rel => exact ⟨j + 1, l ++ [s[j]], by omega, by go_num, str_of (cat_of (lit_of HS.out) HE.out), by simp; omega, hid (by rw [← HP.out]; exact HQ.out), HB⟩
          case measure => simp [intOf]; omega
        · obtain ⟨g1, g2, g3, g4, g5⟩ := h
          have HP : Hid (spell s[j] = [92, 120, hexd (s[j].toNat / 16), hexd (s[j].toNat % 16)]) := hid (by unfold spell; rw [if_neg (by omega), if_neg (by omega), if_neg (by omega), if_neg (by omega)])
          have b34 : ((s[j].toNat : Int) == 34) = false := by simp; omega
          have b92 : ((s[j].toNat : Int) == 92) = false := by simp; omega
          have b10 : ((s[j].toNat : Int) == 10) = false := by simp; omega
          have b9 : ((s[j].toNat : Int) == 9) = false := by simp; omega
          rcases g1 with g1 | g1
          all_goals
            go_wp2
            go_quiet (fail)
            go_wp2
            go_roundw
            case rel => exact ⟨j + 1, l ++ [92, 120, hexd (s[j].toNat / 16), hexd (s[j].toNat % 16)], by omega, by go_num, by rw [show l ++ [92, 120, hexd (s[j].toNat / 16), hexd (s[j].toNat % 16)] = ((l ++ [92, 120]) ++ [hexd (s[j].toNat / 16)]) ++ [hexd (s[j].toNat % 16)] by simp]; exact str_of (cat_of (cat_of (cat_of (lit_of HS.out) rfl) (hex_at _ (by omega))) (hex_at _ (by omega))), by simp; omega, hid (by rw [← HP.out]; exact HQ.out), hid (below_drewN HB.out _)⟩
            case measure => simp [intOf]; omega
      · have hj2 : j = s.size := by omega
        subst hj2
        have HX2 : Hid (l ++ [34] = x) := hid (by
          rw [← HX.out, HL.out, List.take_of_length_le (by simp)]; rfl)
        have hbb := (below_one w _).trans (HB.out.mono (by omega))
        clear HL HX HB
        go_wp2
        go_ret
        exact ⟨congrArg Ending.returned (by rw [← HX2.out]; exact str_of (cat_of (lit_of HS.out) rfl)), hbb⟩
end Go.Proofs.YtgeapgbebbapmaaDoor
