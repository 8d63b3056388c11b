/-
  WALK: the document's Text of a row.
-/
import Derived.Test.YtkoajdbijlpgaaaDoorRtT
import Derived.Test.YtkoajdbijlpgaaaDoorRow
import Derived.Test.YtkoajdbijlpgaaaDoorKit2
namespace Go.Proofs.YtkoajdbijlpgaaaDoor
open Go.RowKit

theorem catT (T : ByteArray) (x : List UInt8) : (T ++ (⟨x.toArray⟩ : ByteArray)).data.toList = T.data.toList ++ x := by
  simp [ByteArray.data_append]
theorem sizeT (x : List UInt8) : (⟨x.toArray⟩ : ByteArray).size = x.length := by simp [ByteArray.size]
theorem ret_B {a b : ByteArray} (h : a = b) : Ending.returned (.string a) = .returned (.string b) := by rw [h]
theorem of_list {T : ByteArray} {l : List UInt8} (h : T.data.toList = l) : T = ⟨l.toArray⟩ := ByteArray.ext (by rw [← h])

set_option maxRecDepth 100000 in
set_option maxHeartbeats 1000000 in
theorem refRow_text (A : Option Addr) (c : Nat) (r : List V) (w : World) (hr : RowAt w A r) (hl : r.length ≤ 100000) (hok : ∀ v ∈ r, v.ok) (hv : ∀ v ∈ r, v.valid = true) :
    Calls Tryd.prog 55 #[.slice A r.length c] w fun e w' => e = .returned (.string ⟨(rowTextL r).toArray⟩) ∧ Below w.heap.size w w' := by
  have H0 : Hid ((⟨#[40]⟩ : ByteArray).data.toList = 40 :: rowBody (r.take 0)) := hid (by rw [List.take_zero]; rfl)
  go_enter Tryd.func55, Tryd.ntmps55
  go_wp2
  go_loopw [3, 4] (fun t i wr => ∃ (k : Nat) (T : ByteArray), k ≤ r.length ∧ i = .int .i64 k ∧ t = .string T ∧ T.size ≤ 1 + 400004 * k ∧ Hid (T.data.toList = 40 :: rowBody (r.take k)) ∧ Below w.heap.size w wr) (fun _ i _ => r.length - (intOf i).toNat)
  case atStart => exact ⟨0, ⟨#[40]⟩, by omega, rfl, rfl, Nat.le_refl _, H0, Below.refl _ _⟩
  case round =>
    obtain ⟨k, T, hk, rfl, rfl, hTs, HT, hbel⟩ := hrel
    clear H0
    by_cases hlt : k < r.length
    · obtain ⟨b, o, rfl, hcell⟩ := hr (by omega)
      obtain ⟨c0, c1, c2⟩ := hcell k hlt
      rw [← hbel.cell (cell_lt c0)] at c0
      rw [← hbel.cell (cell_lt c1)] at c1
      rw [← hbel.cell (cell_lt c2)] at c2
      have hin := hok r[k] (List.getElem_mem hlt)
      have hvl := hv r[k] (List.getElem_mem hlt)
      have h1 := fun h : 0 < k => rowBody_succ hlt h
      have h0 : k = 0 → rowBody (r.take (k + 1)) = textL r[k] := by rintro rfl; exact rowBody_one hlt
      generalize r[k] = v at *
      have Htl := textL_le hin
      have H1 := fun W => hid (ref_text v W hin.n hin.s hvl rfl)
      by_cases hk0 : k = 0
      · have HN : Hid ((T ++ (⟨(textL v).toArray⟩ : ByteArray)).data.toList = 40 :: rowBody (r.take (k + 1))) := hid (by rw [catT, HT.out, h0 hk0, hk0, List.take_zero]; rfl)
        have hk1 : k ≤ 0 := by omega
        have hsz := sizeT (textL v)
        have hTs2 : T.size + (⟨(textL v).toArray⟩ : ByteArray).size ≤ 1 + 400004 * (k + 1) := by rw [hsz]; omega
        generalize (⟨(textL v).toArray⟩ : ByteArray) = X at *
        clear hcell hr hok hv h1 h0 hin hvl HT hk0 Htl hsz
        go_wp2_with fail
        refine (H1 _).out.mono ?_
        rintro e w1 ⟨rfl, b1⟩
        clear H1
        go_wp2_with fail
        go_roundw
        case rel => exact ⟨k + 1, T ++ X, by omega, by go_num, rfl, by rw [ByteArray.size_append]; exact hTs2, HN, hbel.trans (b1.mono hbel.size)⟩
        case measure => simp [intOf]; omega
      · have HN : Hid ((T ++ (⟨#[44, 32]⟩ : ByteArray) ++ (⟨(textL v).toArray⟩ : ByteArray)).data.toList = 40 :: rowBody (r.take (k + 1))) := hid (by
          rw [catT, show (⟨#[44, 32]⟩ : ByteArray) = ⟨([44, 32] : List UInt8).toArray⟩ from rfl, catT, HT.out, h1 (by omega)]; simp)
        have hsz := sizeT (textL v)
        have h2 : (⟨#[44, 32]⟩ : ByteArray).size = 2 := rfl
        have hTs2 : T.size + 2 + (⟨(textL v).toArray⟩ : ByteArray).size ≤ 1 + 400004 * (k + 1) := by rw [hsz]; omega
        generalize (⟨(textL v).toArray⟩ : ByteArray) = X at *
        have hk1 : 0 < k := by omega
        have HH2 := hid h2
        clear hcell hr hok hv h1 h0 hin hvl HT hk0 Htl hsz h2
        go_wp2_with fail
        refine (H1 _).out.mono ?_
        rintro e w1 ⟨rfl, b1⟩
        clear H1
        go_wp2_with fail
        go_roundw
        case rel => exact ⟨k + 1, T ++ ⟨#[44, 32]⟩ ++ X, by omega, by go_num, rfl, by rw [ByteArray.size_append, ByteArray.size_append, HH2.out]; exact hTs2, HN, hbel.trans (b1.mono hbel.size)⟩
        case measure => simp [intOf]; omega
    · have e : r.take k = r := List.take_of_length_le (by omega)
      rw [e] at HT
      have HF : Hid (T ++ (⟨#[41]⟩ : ByteArray) = ⟨(rowTextL r).toArray⟩) := hid (of_list (by rw [show (⟨#[41]⟩ : ByteArray) = ⟨([41] : List UInt8).toArray⟩ from rfl, catT, HT.out]; rfl))
      clear HT e hr hok hv
      go_wp2
      go_ret
      exact ⟨ret_B HF.out, hbel⟩
end Go.Proofs.YtkoajdbijlpgaaaDoor
