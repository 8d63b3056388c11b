/-
  WALK: row.Text.
-/
import Derived.Test.YtaghaigckgckpaaDoorText
import Derived.Test.YtaghaigckgckpaaDoorRow
import Derived.Test.YtaghaigckgckpaaDoorBuild
namespace Go.Proofs.YtaghaigckgckpaaDoor
open Go.RowKit

theorem bld_below {T e : TypeId} {B b : Nat} {p : Value} {bs : List Value} {w w' : World} (h : Lib.BuilderAt T e B b p bs w) (hb : Below w.heap.size w w') : Lib.BuilderAt T e B b p bs w' := by
  have hlt := h.lt
  obtain ⟨hB, v, hbk, hown, hne⟩ := h
  exact ⟨hB, v, (hb.block b hlt).trans hbk, own_below hown hb, hne⟩

theorem bldAdd {T e : TypeId} {B b : Nat} {p : Value} {l x : List UInt8} {w : World} {y : List Value} (hy : Lib.byteCells x = y) (h : Lib.BuilderAt T e B b p (Lib.byteCells l ++ y) w) : Lib.BuilderAt T e B b p (Lib.byteCells (l ++ x)) w := by
  subst hy; rw [Lib.byteCells_append]; exact h

set_option maxRecDepth 100000 in
set_option maxHeartbeats 1000000 in
theorem row_text (A : Option Addr) (c : Nat) (r : List V) (w : World) (hr : RowAt w A r) (hl : r.length ≤ 100000) (hok : ∀ v ∈ r, v.ok) (ht : Tab w) :
    Calls Tryd.prog 18 #[.slice A r.length c] w fun e w' => e = .returned (.string ⟨(rowTextL r).toArray⟩) ∧ Below w.heap.size w w' := by
  have hfb := Lib.fresh_isBuilder 64 5 w
  go_enter Tryd.func18, Tryd.ntmps18
  go_wp2_with (go_at_call 30; refine (writeByte w.heap.size w.heap.size [] _ _ hfb (by simp) (by simp)).mono ?_; rintro e w1 ⟨rfl, hbl, hb1⟩)
  have hb0 : Below w.heap.size w w1 := (below_one w _).trans hb1
  have hbl1 := bldAdd (l := []) (x := [40]) rfl hbl
  clear hb1 hbl hfb
  go_loopw [8] (fun i wr => ∃ (k : Nat) (l : List UInt8), k ≤ r.length ∧ i = .int .i64 k ∧ Lib.BuilderAt 64 5 w.heap.size w.heap.size (.pointer (some ⟨w.heap.size, 0, none⟩)) (Lib.byteCells l) wr ∧ l.length ≤ 1 + 400004 * k ∧ Hid (l = 40 :: rowBody (r.take k)) ∧ Below w.heap.size w wr) (fun i _ => r.length - (intOf i).toNat)
  case atStart => exact ⟨0, [40], by omega, rfl, hbl1, by simp, hid (by simp [rowBody]), hb0⟩
  case round =>
    obtain ⟨k, l, hk, rfl, hbld, hlen, HL, hbel⟩ := hrel
    clear hbl1 hb0
    have hsz := hbel.size
    by_cases hlt : k < r.length
    · obtain ⟨b, o, rfl, hcell⟩ := hr (by omega)
      obtain ⟨c0, c1, c2⟩ := hcell k hlt
      have hin := hok r[k] (List.getElem_mem hlt)
      have hb : b < w.heap.size := cell_lt c0
      have h1 := fun h : 0 < k => rowBody_succ hlt h
      have h0 : k = 0 → rowBody (r.take (k + 1)) = textL r[k] := by rintro rfl; exact rowBody_one hlt
      generalize r[k] = v at *
      have H1 := hid h1
      have H0 := hid h0
      have Htl := textL_le hin
      have hvt := fun W (hW : Tab W) => hid (value_text v W hin.n hin.s hW rfl)
      generalize textL v = tx at *
      have ht' := fun W (h : Below w.heap.size w W) => ht.below h
      clear hr hcell hok h1 h0 ht hin
      by_cases hk0 : k = 0
      · have e := H0.out hk0
        have el : l = [40] := by rw [HL.out, hk0]; rfl
        subst el
        have HL2 : Hid ([40] ++ tx = 40 :: rowBody (r.take (k + 1))) := hid (by rw [e]; rfl)
        have hk1 : k ≤ 0 := by omega
        have d0 := (hbel.cell (p := ⟨b, o + k * 3, none⟩) hb).trans c0
        have d1 := (hbel.cell (p := ⟨b, o + k * 3 + 1, none⟩) hb).trans c1
        have d2 := (hbel.cell (p := ⟨b, o + k * 3 + 2, none⟩) hb).trans c2
        clear H1 H0 HL e hk0
        go_wp2_with (first
          | (go_at_call 31; refine (writeString w.heap.size w.heap.size (Lib.byteCells [40]) ⟨tx.toArray⟩ _ (Or.inr hbl2) (by rw [Lib.byteCells_length]; show _ + tx.length ≤ _; simp; omega) (Nat.le_trans hsz hb2.size)).mono ?_; rintro e w3 ⟨rfl, hbl3, hb3⟩)
          | (go_at_call 32; refine ((hvt _ (ht' _ hbel)).out).mono ?_; rintro e w2 ⟨rfl, hb2⟩; have hbl2 := bld_below hbld hb2))
        have hbl4 := bldAdd (x := tx) rfl hbl3
        have hbelow2 := (hbel.trans (hb2.mono hbel.size)).trans hb3
        clear hbl3 hbl2 hb3 hb2
        go_roundw
        case rel => exact ⟨k + 1, [40] ++ tx, by omega, by go_num, hbl4, by simp; omega, HL2, hbelow2⟩
        case measure => simp [intOf]; omega
      · have hkp : 0 < k := by omega
        have e := H1.out hkp
        have HL2 : Hid (l ++ ([44, 32] ++ tx) = 40 :: rowBody (r.take (k + 1))) := hid (by rw [e, HL.out]; rfl)
        clear H1 H0 HL e hk0
        go_wp2_with (first
          | (go_at_call 31; refine (writeString w.heap.size w.heap.size (Lib.byteCells (l ++ [44, 32])) ⟨tx.toArray⟩ _ (Or.inr hbl2) (by rw [Lib.byteCells_length, List.length_append]; show _ + tx.length ≤ _; simp; omega) (Nat.le_trans hbelow1.size hb2.size)).mono ?_; rintro e w3 ⟨rfl, hbl3, hb3⟩)
          | (go_at_call 31; refine (writeString w.heap.size w.heap.size (Lib.byteCells l) ⟨#[44, 32]⟩ _ (Or.inr hbld) (by rw [Lib.byteCells_length]; show _ + 2 ≤ _; omega) hsz).mono ?_; rintro e w1 ⟨rfl, hbl1, hb1⟩; have hbelow1 := hbel.trans hb1; have d0 := (hbelow1.cell (p := ⟨b, o + k * 3, none⟩) hb).trans c0; have d1 := (hbelow1.cell (p := ⟨b, o + k * 3 + 1, none⟩) hb).trans c1; have d2 := (hbelow1.cell (p := ⟨b, o + k * 3 + 2, none⟩) hb).trans c2)
          | (go_at_call 32; refine ((hvt _ (ht' _ hbelow1)).out).mono ?_; rintro e w2 ⟨rfl, hb2⟩; have hbl2 := bld_below (bldAdd (x := [44, 32]) rfl hbl1) hb2))
        have hbl4 := bldAdd (x := tx) rfl hbl3
        have hbelow2 := (hbelow1.trans (hb2.mono hbelow1.size)).trans hb3
        clear hbl3 hbl2 hbl1 hb3 hb2 hb1
        go_roundw
        case rel => exact ⟨k + 1, (l ++ [44, 32]) ++ tx, by omega, by go_num, hbl4, by simp; omega, hid (by rw [← HL2.out]; simp), hbelow2⟩
        case measure => simp [intOf]; omega
    · have e : r.take k = r := List.take_of_length_le (by omega)
      rw [e] at HL
      have HF : Hid (l ++ [41] = rowTextL r) := hid (by rw [HL.out]; rfl)
      clear HL e hr hok ht
      go_wp2_with (first
        | (go_at_call 30; refine (writeByte w.heap.size w.heap.size (Lib.byteCells l) _ _ (Or.inr hbld) (by rw [Lib.byteCells_length]; omega) hsz).mono ?_; rintro e w1 ⟨rfl, hbl, hb1⟩; have hbl2 := bldAdd (x := [41]) rfl hbl; have hbel2 := hbel.trans hb1)
        | (go_at_call 33; refine (Tryd.Builder_String_any w.heap.size w.heap.size (l ++ [41]) _ (Or.inr hbl2) hbel2.size).mono ?_; rintro e w2 ⟨rfl, hb2⟩))
      go_ret
      exact ⟨ret_s HF.out, hbel2.trans hb2⟩
end Go.Proofs.YtaghaigckgckpaaDoor
